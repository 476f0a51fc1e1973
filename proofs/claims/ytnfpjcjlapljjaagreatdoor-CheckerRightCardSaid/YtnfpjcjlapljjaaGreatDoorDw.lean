/- Words for the row of CheckerRight: plans, bits, changes that came in. -/
import Derived.Test.YtnfpjcjlapljjaaGreatDoorDv
import Derived.Test.YtnfpjcjlapljjaaGreatDoorOpen
import Derived.Test.YtnfpjcjlapljjaaGreatDoorCards
import Derived.Test.YtnfpjcjlapljjaaGreatDoorTie
namespace Go.Proofs.YtnfpjcjlapljjaaGreatDoor
open Go Go.RowKit Go.ChangeShapes Go.WideShapes
open Org
theorem own : ownKnob Tryz.prog.godebug = none := by kernel_rfl
theorem laidOut : laidOutB Tryz.prog = true := by kernel_rfl
theorem cells_u8 : Tryz.prog.cellsOf 5 = 1 := by kernel_rfl
theorem cells_i8 : Tryz.prog.cellsOf 129 = 1 := by kernel_rfl
theorem cells_u16 : Tryz.prog.cellsOf 28 = 1 := by kernel_rfl
theorem cells_bool : Tryz.prog.cellsOf 4 = 1 := by kernel_rfl
theorem cells_int : Tryz.prog.cellsOf 3 = 1 := by kernel_rfl
theorem cells_a5 : Tryz.prog.cellsOf 27 = 5 := by kernel_rfl
theorem cells_a3 : Tryz.prog.cellsOf 29 = 3 := by kernel_rfl
theorem cells_p14 : Tryz.prog.cellsOf 131 = 9 := by kernel_rfl
theorem cells_bd : Tryz.prog.cellsOf 75 = 4 := by kernel_rfl
theorem cells_pl : Tryz.prog.cellsOf 135 = 4 := by kernel_rfl
theorem cells_ln : Tryz.prog.cellsOf 137 = 4 := by kernel_rfl
theorem cells_pn : Tryz.prog.cellsOf 26 = 3 := by kernel_rfl
theorem cells_bt : Tryz.prog.cellsOf 31 = 10 := by kernel_rfl
theorem cells_sp : Tryz.prog.cellsOf 33 = 3 := by kernel_rfl
theorem cells_s1 : Tryz.prog.cellsOf 22 = 1 := by kernel_rfl
theorem cells_s2 : Tryz.prog.cellsOf 23 = 1 := by kernel_rfl
theorem cells_s3 : Tryz.prog.cellsOf 24 = 1 := by kernel_rfl
theorem cells_s4 : Tryz.prog.cellsOf 73 = 1 := by kernel_rfl
theorem bytes_p14 : 0 < Tryz.prog.bytesOf 131 := of_decide_eq_true (by kernel_rfl)
theorem bytes_bd : 0 < Tryz.prog.bytesOf 75 := of_decide_eq_true (by kernel_rfl)
theorem bytes_pl : 0 < Tryz.prog.bytesOf 135 := of_decide_eq_true (by kernel_rfl)
theorem bytes_ln : 0 < Tryz.prog.bytesOf 137 := of_decide_eq_true (by kernel_rfl)
theorem agg_of_cells {v : Value} {t : TypeId} {P : Program} {W : World} {base : Nat} {fs : Array Field} (ht : P.underlying t = some (.struct fs)) (h : Value.okWide P W .any base t v) {l : List Value} (hl : v.cells.toList = l) : v = .agg l.toArray := by
  simp only [Value.okWide, ht] at h
  obtain ⟨cs, rfl, _⟩ := h
  subst hl
  rfl
theorem tabIs_of_laid {P : Program} {W : World} {k : IntKind} {L : List (String × DataW Unit)} {n : String} {vals : List Int} {g T te len : Nat} (h : laidMet P L W) (hm : (n, .agg (vals.map fun x => .lit (.int k x))) ∈ L) (hg : P.globalNamed n = some g) (hT : (P.globals[g]?).map (·.type) = some T)
    (ht : P.underlying T = some (.array len te)) (hte : P.underlying te = some (.int k)) (hc : P.cellsOf te = 1) (hl : P.cellsOf T = vals.length) : Lib.TabIs P W n k vals := by
  obtain ⟨ps, hps, _⟩ := h
  obtain ⟨g', t', cs, f, q, hg', ht', hv, hd⟩ := laid_mem hps hm
  obtain rfl := Option.some.inj (hg.symm.trans hg')
  obtain rfl := Option.some.inj (hT.symm.trans ht')
  have h1 := table_cells ht hte hc hd
  obtain ⟨_, _, _, _, hlen, _⟩ := DataW.trod_array ht hd
  unfold Lib.TabIs
  rw [hv]
  congr 1
  apply Array.toList_inj.1
  rw [List.toList_toArray]
  apply List.ext_getElem?
  intro j
  rcases Nat.lt_or_ge j vals.length with hj | hj
  · rw [h1 j hj]; simp [hj]
  · rw [List.getElem?_eq_none (by omega), List.getElem?_eq_none (by simpa using hj)]
section
variable {H : Type} {enc : TypeId × Value → H} {w : World}
def U8C (_ : World) (cs : List Value) (x : Nat) : Prop := cs = [.int .u8 (x : Int)] ∧ x < 256
theorem opens_u8C : Opens enc Tryz.prog w 5 1 U8C := fun n cs x h1 h2 => by
  obtain ⟨q, y, hc, hy⟩ := opens_int Tryz.underlying5 n cs x h1 h2
  have hb : 0 ≤ y ∧ y ≤ 255 := bounds_u8 hy
  refine ⟨q, y.toNat, ?_, by omega⟩
  rw [hc, Int.toNat_of_nonneg hb.1]
def U16C (_ : World) (cs : List Value) (x : Nat) : Prop := cs = [.int .u16 (x : Int)] ∧ x < 65536
theorem opens_u16C : Opens enc Tryz.prog w 28 1 U16C := fun n cs x h1 h2 => by
  obtain ⟨q, y, hc, hy⟩ := opens_int Tryz.underlying28 n cs x h1 h2
  have hb : 0 ≤ y ∧ y ≤ 65535 := bounds_u16 hy
  refine ⟨q, y.toNat, ?_, by omega⟩
  rw [hc, Int.toNat_of_nonneg hb.1]
def I8C (_ : World) (cs : List Value) (x : Int) : Prop := cs = [.int .i8 x] ∧ -128 ≤ x ∧ x ≤ 127
theorem opens_i8C : Opens enc Tryz.prog w 129 1 I8C := fun n cs x h1 h2 => by
  obtain ⟨q, y, hc, hy⟩ := opens_int Tryz.underlying129 n cs x h1 h2
  exact ⟨q, y, hc, bounds_i8 hy⟩
def I64C (_ : World) (cs : List Value) (x : Int) : Prop := cs = [.int .i64 x] ∧ -9223372036854775808 ≤ x ∧ x ≤ 9223372036854775807
theorem opens_i64C : Opens enc Tryz.prog w 3 1 I64C := fun n cs x h1 h2 => by
  obtain ⟨q, y, hc, hy⟩ := opens_int Tryz.underlying3 n cs x h1 h2
  exact ⟨q, y, hc, bounds_i64 hy⟩
def A5C (_ : World) (cs : List Value) (x : Nat × Nat × Nat × Nat × Nat) : Prop := cs = [.int .u8 (x.1 : Int), .int .u8 (x.2.1 : Int), .int .u8 (x.2.2.1 : Int), .int .u8 (x.2.2.2.1 : Int), .int .u8 (x.2.2.2.2 : Int)] ∧ x.1 < 256 ∧ x.2.1 < 256 ∧ x.2.2.1 < 256 ∧ x.2.2.2.1 < 256 ∧ x.2.2.2.2 < 256
theorem opens_a5 : Opens enc Tryz.prog w 27 5 A5C := fun n cs x h1 h2 => by
  obtain ⟨hl, f, hf⟩ := opens_array Tryz.underlying27 cells_u8 opens_u8C n cs x h1 h2
  rw [cells_a5] at hl
  match cs, hl with
  | [a, b, c, d, e], _ =>
    obtain ⟨k0, _, hk0, hb0⟩ := hf 0 (by decide)
    obtain ⟨k1, _, hk1, hb1⟩ := hf 1 (by decide)
    obtain ⟨k2, _, hk2, hb2⟩ := hf 2 (by decide)
    obtain ⟨k3, _, hk3, hb3⟩ := hf 3 (by decide)
    obtain ⟨k4, _, hk4, hb4⟩ := hf 4 (by decide)
    simp at hk0 hk1 hk2 hk3 hk4
    subst hk0; subst hk1; subst hk2; subst hk3; subst hk4
    exact ⟨rfl, (k0, k1, k2, k3, k4), rfl, hb0, hb1, hb2, hb3, hb4⟩
def A3C (_ : World) (cs : List Value) (x : Nat × Nat × Nat) : Prop := cs = [.int .u16 (x.1 : Int), .int .u16 (x.2.1 : Int), .int .u16 (x.2.2 : Int)] ∧ x.1 < 65536 ∧ x.2.1 < 65536 ∧ x.2.2 < 65536
theorem opens_a3 : Opens enc Tryz.prog w 29 3 A3C := fun n cs x h1 h2 => by
  obtain ⟨hl, f, hf⟩ := opens_array Tryz.underlying29 cells_u16 opens_u16C n cs x h1 h2
  rw [cells_a3] at hl
  match cs, hl with
  | [a, b, c], _ =>
    obtain ⟨k0, _, hk0, hb0⟩ := hf 0 (by decide)
    obtain ⟨k1, _, hk1, hb1⟩ := hf 1 (by decide)
    obtain ⟨k2, _, hk2, hb2⟩ := hf 2 (by decide)
    simp at hk0 hk1 hk2
    subst hk0; subst hk1; subst hk2
    exact ⟨rfl, (k0, k1, k2), rfl, hb0, hb1, hb2⟩
def P14D (w : World) (cs : List Value) (x : P14) : Prop := P14C w cs x ∧ x.Ok
set_option maxRecDepth 100000 in
theorem opens_p14 : Opens enc Tryz.prog w 131 9 P14D := fun n cs x h1 h2 => by
  obtain ⟨hl, hf⟩ := opens_struct Tryz.underlying131 h1 h2
  rw [cells_p14] at hl
  match cs, hl with
  | [a, b, c, d, e0, e1, e2, e3, e4], _ =>
    obtain ⟨k0, hk0, hb0⟩ := hf 0 _ _ _ rfl opens_u8C
    obtain ⟨k1, hk1, hb1⟩ := hf 1 _ _ _ rfl opens_u8C
    obtain ⟨k2, hk2, hb2⟩ := hf 2 _ _ _ rfl opens_i8C
    obtain ⟨k3, hk3, hb3⟩ := hf 3 _ _ _ rfl opens_u8C
    obtain ⟨⟨m0, m1, m2, m3, m4⟩, hm, hc0, hc1, hc2, hc3, hc4⟩ := hf 4 _ _ _ rfl opens_a5
    simp [cells_u8, cells_i8, cells_a5] at hk0 hk1 hk2 hk3 hm
    obtain ⟨g0, g1, g2, g3, g4⟩ := hm
    subst hk0; subst hk1; subst hk2; subst hk3; subst g0; subst g1; subst g2; subst g3; subst g4
    exact ⟨rfl, ⟨k0, k1, k2, k3, m0, m1, m2, m3, m4⟩, rfl, hb0, hb1, hb2, hb3, fun r => by
      show (match r with | 0 => m0 | 1 => m1 | 2 => m2 | 3 => m3 | _ => m4) < 256
      split <;> assumption⟩
theorem opens_p14s : Opens enc Tryz.prog w 22 1 (AnySl 9 P14D) := opens_slice Tryz.underlying22 cells_p14 bytes_p14 (by decide) opens_p14
def PlD (w : World) (cs : List Value) (x : Pl) : Prop := PlC w cs x ∧ x.Ok
set_option maxRecDepth 100000 in
theorem opens_pl : Opens enc Tryz.prog w 135 4 PlD := fun n cs x h1 h2 => by
  obtain ⟨hl, hf⟩ := opens_struct Tryz.underlying135 h1 h2
  rw [cells_pl] at hl
  match cs, hl with
  | [a, b, c, d], _ =>
    obtain ⟨k0, hk0, hb0⟩ := hf 0 _ _ _ rfl opens_u8C
    obtain ⟨k1, hk1, hb1⟩ := hf 1 _ _ _ rfl opens_u8C
    obtain ⟨k2, hk2, hb2⟩ := hf 2 _ _ _ rfl opens_u8C
    obtain ⟨k3, hk3, hb3⟩ := hf 3 _ _ _ rfl opens_u8C
    simp [cells_u8] at hk0 hk1 hk2 hk3
    subst hk0; subst hk1; subst hk2; subst hk3
    exact ⟨rfl, ⟨k0, k1, k2, k3⟩, rfl, hb0, hb1, hb2, hb3⟩
theorem opens_pls : Opens enc Tryz.prog w 73 1 (AnySl 4 PlD) := opens_slice Tryz.underlying73 cells_pl bytes_pl (by decide) opens_pl
def BdD (w : World) (cs : List Value) (x : Bd) : Prop := BdC (fun b => b < w.heap.size) w cs x ∧ x.Ok
theorem sl_both {α : Type} {F : Nat → Prop} {k : Nat} {R : World → List Value → α → Prop} {Q : α → Prop} {w : World} {v : Value} {l : List α} (h : Sl F k (fun w cs x => R w cs x ∧ Q x) w v l) : Sl F k R w v l ∧ ∀ x ∈ l, Q x := by
  refine ⟨Sl.monoR h fun cs x hx => hx.1, fun s hs => ?_⟩
  obtain ⟨i, hi, rfl⟩ := List.getElem_of_mem hs
  obtain ⟨A, c, _, _, _, hat⟩ := h
  obtain ⟨_, _, _, _, _, hr, _⟩ := hat i hi
  exact hr.2
set_option maxRecDepth 100000 in
theorem opens_bd : Opens enc Tryz.prog w 75 4 BdD := fun n cs x h1 h2 => by
  obtain ⟨hl, hf⟩ := opens_struct Tryz.underlying75 h1 h2
  rw [cells_bd] at hl
  match cs, hl with
  | [a, b, c, d], _ =>
    obtain ⟨k0, hk0, hb0⟩ := hf 0 _ _ _ rfl opens_u8C
    obtain ⟨k1, hk1, hb1⟩ := hf 1 _ _ _ rfl opens_u8C
    obtain ⟨k2, hk2⟩ := hf 2 _ _ _ rfl (opens_bool Tryz.underlying4)
    obtain ⟨k3, v, hk3, hs⟩ := hf 3 _ _ _ rfl opens_pls
    simp [cells_u8, cells_bool, cells_s4, FlagC] at hk0 hk1 hk2 hk3
    subst hk0; subst hk1; subst hk2; subst hk3
    obtain ⟨hs1, hs2⟩ := sl_both hs
    exact ⟨rfl, ⟨k0, k1, k2, k3⟩, ⟨_, rfl, hs1⟩, hb0, hb1, hs2⟩
theorem opens_bds : Opens enc Tryz.prog w 23 1 (AnySl 4 BdD) := opens_slice Tryz.underlying23 cells_bd bytes_bd (by decide) opens_bd
def LnD (w : World) (cs : List Value) (x : Lnk) : Prop := LnkC w cs x ∧ x.Ok
set_option maxRecDepth 100000 in
theorem opens_ln : Opens enc Tryz.prog w 137 4 LnD := fun n cs x h1 h2 => by
  obtain ⟨hl, hf⟩ := opens_struct Tryz.underlying137 h1 h2
  rw [cells_ln] at hl
  match cs, hl with
  | [a, b, c, d], _ =>
    obtain ⟨k0, hk0, hb0⟩ := hf 0 _ _ _ rfl opens_u8C
    obtain ⟨k1, hk1, hb1⟩ := hf 1 _ _ _ rfl opens_u8C
    obtain ⟨k2, hk2, hb2⟩ := hf 2 _ _ _ rfl opens_i8C
    obtain ⟨k3, hk3⟩ := hf 3 _ _ _ rfl (opens_bool Tryz.underlying4)
    simp [cells_u8, cells_i8, cells_bool, FlagC] at hk0 hk1 hk2 hk3
    subst hk0; subst hk1; subst hk2; subst hk3
    exact ⟨rfl, ⟨k0, k1, k2, k3⟩, rfl, hb0, hb1, hb2⟩
theorem opens_lns : Opens enc Tryz.prog w 24 1 (AnySl 4 LnD) := opens_slice Tryz.underlying24 cells_ln bytes_ln (by decide) opens_ln
def PnD (w : World) (cs : List Value) (x : Pn) : Prop := (∃ vr vd vc, cs = [vr, vd, vc] ∧ Sl (fun b => b < w.heap.size) 9 P14C w vr x.ranks ∧ Sl (fun b => b < w.heap.size) 4 (BdC fun b => b < w.heap.size) w vd x.divs ∧ Sl (fun b => b < w.heap.size) 4 LnkC w vc x.cpls) ∧ x.Ok
set_option maxRecDepth 100000 in
theorem opens_pn : Opens enc Tryz.prog w 26 3 PnD := fun n cs x h1 h2 => by
  obtain ⟨hl, hf⟩ := opens_struct Tryz.underlying26 h1 h2
  rw [cells_pn] at hl
  match cs, hl with
  | [a, b, c], _ =>
    obtain ⟨k0, v0, hk0, h0⟩ := hf 0 _ _ _ rfl opens_p14s
    obtain ⟨k1, v1, hk1, h1⟩ := hf 1 _ _ _ rfl opens_bds
    obtain ⟨k2, v2, hk2, h2⟩ := hf 2 _ _ _ rfl opens_lns
    simp [cells_s1, cells_s2, cells_s3] at hk0 hk1 hk2
    subst hk0; subst hk1; subst hk2
    obtain ⟨a1, a2⟩ := sl_both h0
    have hb : Sl (fun b => b < w.heap.size) 4 (fun W cs x => BdC (fun b => b < w.heap.size) W cs x ∧ x.Ok) w b k1 := Sl.monoR h1 fun _ _ h => h
    obtain ⟨b1, b2⟩ := sl_both hb
    obtain ⟨c1, c2⟩ := sl_both h2
    exact ⟨rfl, ⟨k0, k1, k2⟩, ⟨_, _, _, rfl, a1, b1, c1⟩, a2, b2, c2⟩
def BtD (_ : World) (cs : List Value) (x : Bt26) : Prop := cs = x.cs ∧ x.Ok
set_option maxRecDepth 100000 in
theorem opens_bt : Opens enc Tryz.prog w 31 10 BtD := fun n cs x h1 h2 => by
  obtain ⟨hl, hf⟩ := opens_struct Tryz.underlying31 h1 h2
  rw [cells_bt] at hl
  match cs, hl with
  | [a0, a1, a2, a3, a4, b0, b1, b2, c, d], _ =>
    obtain ⟨⟨m0, m1, m2, m3, m4⟩, hm, hc0, hc1, hc2, hc3, hc4⟩ := hf 0 _ _ _ rfl opens_a5
    obtain ⟨⟨l0, l1, l2⟩, hl', hd0, hd1, hd2⟩ := hf 1 _ _ _ rfl opens_a3
    obtain ⟨k2, hk2, hb2⟩ := hf 2 _ _ _ rfl opens_u8C
    obtain ⟨k3, hk3, hb3⟩ := hf 3 _ _ _ rfl opens_u8C
    simp [cells_u8, cells_a5, cells_a3] at hm hl' hk2 hk3
    obtain ⟨g0, g1, g2, g3, g4⟩ := hm
    obtain ⟨j0, j1, j2⟩ := hl'
    subst g0; subst g1; subst g2; subst g3; subst g4; subst j0; subst j1; subst j2; subst hk2; subst hk3
    exact ⟨rfl, ⟨fun i => match i with | 0 => m0 | 1 => m1 | 2 => m2 | 3 => m3 | _ => m4, fun i => match i with | 0 => l0 | 1 => l1 | _ => l2, k2, k3⟩, rfl, fun i _ => by
      show (match i with | 0 => m0 | 1 => m1 | 2 => m2 | 3 => m3 | _ => m4) < 256
      split <;> assumption, fun i _ => by
      show (match i with | 0 => l0 | 1 => l1 | _ => l2) < 65536
      split <;> assumption, hb2, hb3⟩
def SpD (_ : World) (cs : List Value) (x : Nat × Nat × Int) : Prop := cs = [.int .u8 (x.1 : Int), .int .u8 (x.2.1 : Int), .int .i64 x.2.2] ∧ x.1 < 256 ∧ x.2.1 < 256 ∧ -9223372036854775808 ≤ x.2.2 ∧ x.2.2 ≤ 9223372036854775807
set_option maxRecDepth 100000 in
theorem opens_sp : Opens enc Tryz.prog w 33 3 SpD := fun n cs x h1 h2 => by
  obtain ⟨hl, hf⟩ := opens_struct Tryz.underlying33 h1 h2
  rw [cells_sp] at hl
  match cs, hl with
  | [a, b, c], _ =>
    obtain ⟨k0, hk0, hb0⟩ := hf 0 _ _ _ rfl opens_u8C
    obtain ⟨k1, hk1, hb1⟩ := hf 1 _ _ _ rfl opens_u8C
    obtain ⟨k2, hk2, hb2⟩ := hf 2 _ _ _ rfl opens_i64C
    simp [cells_u8, cells_int] at hk0 hk1 hk2
    subst hk0; subst hk1; subst hk2
    exact ⟨rfl, (k0, k1, k2), rfl, hb0, hb1, hb2⟩
end
end Go.Proofs.YtnfpjcjlapljjaaGreatDoor
