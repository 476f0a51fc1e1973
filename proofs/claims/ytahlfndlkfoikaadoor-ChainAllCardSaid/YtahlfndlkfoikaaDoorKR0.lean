/- Words for the rows of the statements of couplers: a plan, a contact, an integer that came in. -/
import Derived.Test.YtahlfndlkfoikaaDoorKw
import Derived.Test.YtahlfndlkfoikaaDoorOpen
import Derived.Test.YtahlfndlkfoikaaDoorCards
import Derived.Test.YtahlfndlkfoikaaDoorTie
namespace Go.Proofs.YtahlfndlkfoikaaDoor
open Go Go.RowKit Go.ChangeShapes Go.WideShapes
theorem own : ownKnob Tryd.prog.godebug = none := by kernel_rfl
theorem laidOut : laidOutB Tryd.prog = true := by kernel_rfl
theorem cells_u8 : Tryd.prog.cellsOf 5 = 1 := by kernel_rfl
theorem cells_i8 : Tryd.prog.cellsOf 82 = 1 := by kernel_rfl
theorem cells_bool : Tryd.prog.cellsOf 4 = 1 := by kernel_rfl
theorem cells_int : Tryd.prog.cellsOf 3 = 1 := by kernel_rfl
theorem cells_u2 : Tryd.prog.cellsOf 22 = 2 := by kernel_rfl
theorem cells_u32 : Tryd.prog.cellsOf 23 = 6 := by kernel_rfl
theorem cells_link : Tryd.prog.cellsOf 84 = 4 := by kernel_rfl
theorem bytes_link : Tryd.prog.bytesOf 84 = 4 := by kernel_rfl
theorem cells_links : Tryd.prog.cellsOf 24 = 1 := by kernel_rfl
theorem cells_plan : Tryd.prog.cellsOf 26 = 9 := by kernel_rfl
theorem cells_ct : Tryd.prog.cellsOf 36 = 2 := by kernel_rfl
theorem agg_of_cells {v : Value} {t : TypeId} {P : Program} {W : World} {base : Nat} {fs : Array Field} (ht : P.underlying t = some (.struct fs)) (h : Value.okWide P W .any base t v) {l : List Value} (hl : v.cells.toList = l) : v = .agg l.toArray := by
  simp only [Value.okWide, ht] at h
  obtain ⟨cs, rfl, _⟩ := h
  subst hl
  rfl
theorem slice_of_cells {v : Value} {t e : TypeId} {P : Program} {W : World} {base : Nat} (ht : P.underlying t = some (.slice e)) (h : Value.okWide P W .any base t v) {u : Value} (hl : v.cells.toList = [u]) : v = u := by
  simp only [Value.okWide, ht] at h
  cases v <;> simp_all [Value.cells, Cell.okWide, Cell.ok]
theorem int_of_cells {v : Value} {t : TypeId} {k : IntKind} {P : Program} {W : World} {base : Nat} (ht : P.underlying t = some (.int k)) (h : Value.okWide P W .any base t v) {u : Value} (hl : v.cells.toList = [u]) : v = u := by
  simp only [Value.okWide, ht] at h
  cases v <;> simp_all [Value.cells, Cell.okWide, Cell.ok]
section
variable {H : Type} {enc : TypeId × Value → H} {w : World}
/-- A cell that is a byte. -/
def ByteC (_ : World) (cs : List Value) (x : Nat) : Prop := cs = [.int .u8 (x : Int)] ∧ x < 256
theorem opens_byteC : Opens enc Tryd.prog w 5 1 ByteC := fun n cs x h1 h2 => by
  obtain ⟨q, y, hc, hy⟩ := opens_int Tryd.underlying5 n cs x h1 h2
  have hb := bounds_u8 hy
  refine ⟨q, y.toNat, ?_, by omega⟩
  rw [hc, Int.toNat_of_nonneg hb.1]
def LkD (w : World) (cs : List Value) (x : Cou.Lk) : Prop := LkC w cs x ∧ x.from_ < 256 ∧ x.to_ < 256 ∧ -128 ≤ x.shift ∧ x.shift ≤ 127
set_option maxRecDepth 100000 in
theorem opens_link : Opens enc Tryd.prog w 84 4 LkD := fun n cs x h1 h2 => by
  obtain ⟨hl, hf⟩ := opens_struct Tryd.underlying84 h1 h2
  rw [cells_link] at hl
  match cs, hl with
  | [a, b, c, d], _ =>
    obtain ⟨k, hk, hk2⟩ := hf 0 _ _ _ rfl opens_byteC
    obtain ⟨l, hl, hl2⟩ := hf 1 _ _ _ rfl opens_byteC
    obtain ⟨m, hm, hm2⟩ := hf 2 _ _ _ rfl (opens_int Tryd.underlying82)
    obtain ⟨q, hq⟩ := hf 3 _ _ _ rfl (opens_bool Tryd.underlying4)
    simp [cells_u8, cells_i8, cells_bool, FlagC] at hk hl hm hq
    subst hk; subst hl; subst hm; subst hq
    exact ⟨rfl, ⟨k, l, m, q⟩, rfl, hk2, hl2, bounds_i8 hm2⟩
theorem opens_links : Opens enc Tryd.prog w 24 1 (AnySl 4 LkD) := opens_slice Tryd.underlying24 cells_link (by rw [bytes_link]; decide) (by decide) opens_link
def PairC (_ : World) (cs : List Value) (x : Nat × Nat) : Prop := cs = [.int .u8 (x.1 : Int), .int .u8 (x.2 : Int)] ∧ x.1 < 256 ∧ x.2 < 256
theorem opens_pair : Opens enc Tryd.prog w 22 2 PairC := fun n cs x h1 h2 => by
  obtain ⟨hl, f, hf⟩ := opens_array Tryd.underlying22 cells_u8 opens_byteC n cs x h1 h2
  rw [cells_u2] at hl
  match cs, hl with
  | [a, b], _ =>
    obtain ⟨k, _, hk, hk2⟩ := hf 0 (by decide)
    obtain ⟨l, _, hl, hl2⟩ := hf 1 (by decide)
    simp at hk hl
    subst hk; subst hl
    exact ⟨rfl, (k, l), rfl, hk2, hl2⟩
def TripC (_ : World) (cs : List Value) (x : List (Nat × Nat)) : Prop := ∃ a b c : Nat × Nat, x = [a, b, c] ∧ cs = [.int .u8 (a.1 : Int), .int .u8 (a.2 : Int), .int .u8 (b.1 : Int), .int .u8 (b.2 : Int), .int .u8 (c.1 : Int), .int .u8 (c.2 : Int)] ∧ (a.1 < 256 ∧ a.2 < 256) ∧ (b.1 < 256 ∧ b.2 < 256) ∧ c.1 < 256 ∧ c.2 < 256
theorem opens_trip : Opens enc Tryd.prog w 23 6 TripC := fun n cs x h1 h2 => by
  obtain ⟨hl, f, hf⟩ := opens_array Tryd.underlying23 cells_u2 opens_pair n cs x h1 h2
  rw [cells_u32] at hl
  match cs, hl with
  | [a, b, c, d, e, g], _ =>
    obtain ⟨k, _, hk, hk2⟩ := hf 0 (by decide)
    obtain ⟨l, _, hl, hl2⟩ := hf 1 (by decide)
    obtain ⟨m, _, hm, hm2⟩ := hf 2 (by decide)
    simp at hk hl hm
    obtain ⟨rfl, rfl⟩ := hk
    obtain ⟨rfl, rfl⟩ := hl
    obtain ⟨rfl, rfl⟩ := hm
    exact ⟨rfl, [k, l, m], k, l, m, rfl, rfl, hk2, hl2, hm2⟩
theorem lks_all {F : Nat → Prop} {w : World} {v : Value} {l : List Cou.Lk} (h : Sl F 4 LkD w v l) : SlLk F w v l ∧ ∀ x ∈ l, x.from_ < 256 ∧ x.to_ < 256 ∧ -128 ≤ x.shift ∧ x.shift ≤ 127 := by
  refine ⟨Sl.monoR h fun cs x hx => hx.1, fun s hs => ?_⟩
  obtain ⟨i, hi, rfl⟩ := List.getElem_of_mem hs
  obtain ⟨A, c, _, _, _, hat⟩ := h
  obtain ⟨_, _, _, _, _, hr, _⟩ := hat i hi
  exact hr.2
set_option maxRecDepth 100000 in
theorem opens_plan : Opens enc Tryd.prog w 26 9 (fun w cs (p : Cou.Pl) => ∃ vl, cs = (plCells p vl).toList ∧ PlOk p ∧ SlLk (fun b => b < w.heap.size) w vl p.links) := fun n cs x h1 h2 => by
  obtain ⟨hl, hf⟩ := opens_struct Tryd.underlying26 h1 h2
  rw [cells_plan] at hl
  match cs, hl with
  | [a0, a1, a2, a3, a4, a5, a6, a7, a8], _ =>
    obtain ⟨dv, ⟨d0, d1, d2, rfl, hd, k0, k1, k2⟩⟩ := hf 0 _ _ _ rfl opens_trip
    obtain ⟨m, hm, hm2⟩ := hf 1 _ _ _ rfl opens_byteC
    obtain ⟨lk, v, hv, hs⟩ := hf 2 _ _ _ rfl opens_links
    obtain ⟨dr, hr, hr2⟩ := hf 3 _ _ _ rfl opens_byteC
    obtain ⟨q1, q2⟩ := lks_all hs
    simp [cells_u8, cells_u32, cells_links] at hd hm hv hr
    subst hm; subst hv; subst hr
    obtain ⟨rfl, rfl, rfl, rfl, rfl, rfl⟩ := hd
    refine ⟨rfl, ⟨[d0, d1, d2], m, lk, dr⟩, _, rfl, ⟨rfl, ?_, hm2, hr2, q2⟩, q1⟩
    intro d hd
    simp at hd
    rcases hd with rfl | rfl | rfl <;> assumption
set_option maxRecDepth 100000 in
theorem opens_ct : Opens enc Tryd.prog w 36 2 (fun _ cs (y : Cou.Ct) => cs = [.int .i64 y.1, .int .i64 y.2] ∧ (Lit.int .i64 y.1).wf = true ∧ (Lit.int .i64 y.2).wf = true) := fun n cs x h1 h2 => by
  obtain ⟨hl, hf⟩ := opens_struct Tryd.underlying36 h1 h2
  rw [cells_ct] at hl
  match cs, hl with
  | [a, b], _ =>
    obtain ⟨k, hk, hk2⟩ := hf 0 _ _ _ rfl (opens_int Tryd.underlying3)
    obtain ⟨l, hl, hl2⟩ := hf 1 _ _ _ rfl (opens_int Tryd.underlying3)
    simp [cells_int] at hk hl
    subst hk; subst hl
    exact ⟨rfl, (k, l), rfl, hk2, hl2⟩
end
theorem tab64_lt {w : World} (h : Tab64 w) : 0 < w.heap.size := World.block_lt_of_cell? _ _ (h 0 (by decide))
end Go.Proofs.YtahlfndlkfoikaaDoor
