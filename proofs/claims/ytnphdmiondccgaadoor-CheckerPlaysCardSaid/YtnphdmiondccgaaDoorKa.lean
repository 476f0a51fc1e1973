/- Walks over coupler: an action in memory; in, step, contact. Walks over coupler: TrailingZeros64; the iterator over the drawn couplers. Walks over coupler: the map of seen contacts; a row of contacts; an append within a round. -/
import Derived.Test.YtnphdmiondccgaaDoorRows
import Derived.Test.YtnphdmiondccgaaDoorRegion
import Derived.Test.YtnphdmiondccgaaDoorKp
import Derived.Deep.RegionHeld3
import Derived.BigQuiet
import Derived.BigGuardPart
import Derived.Deep.CutRange
import Derived.Deep.OwnRows
import Derived.Laws.BitsAllLaws
import Derived.WalkKit
import Derived.WalkSpells
import Derived.WalkLawsBesides
import Derived.StillTactics
import Derived.LoopTactic
import Derived.Deep.LoopGhost
import Derived.Outline
import Derived.Handy
import Derived.Shelf.Abstract
import Derived.Test.YtnphdmiondccgaaDoorCovP
import Derived.Shelf.Spec.TrailingZeros
import Derived.RangeFuncWrites
import Derived.RangeFuncCalls
import Derived.RangeFuncLeaves
import Derived.OwnWalkIn
import Derived.TacticsInMore
import Derived.LoopNIn
import Derived.LoopIn
import Derived.Maps.OwnIn
import Derived.DeepKeys3
import Derived.Maps.AppendAt
namespace Go.Proofs.YtnphdmiondccgaaDoor
open Go Go.RowKit
/-- The cells of a compass, of a coupler, of a contact. -/
def CmpC (_ : World) (cs : List Value) (x : Int × Int) : Prop := cs = [.int .i64 x.1, .int .i64 x.2]
def CplC (_ : World) (cs : List Value) (x : Cou.Cpl) : Prop := cs = [.string x.name, .int .i64 x.from_, .int .i64 x.to, .int .i64 x.shift, .bool x.thru]
abbrev SlD (F : Nat → Prop) (w : World) (v : Value) (l : List (Int × Int)) : Prop := Sl F 2 CmpC w v l
abbrev SlCp (F : Nat → Prop) (w : World) (v : Value) (l : List Cou.Cpl) : Prop := Sl F 5 CplC w v l
theorem SlD.keep {F : Nat → Prop} {w w' : World} {v : Value} {l : List (Int × Int)} (h : SlD F w v l) (ha : Agree F w w') : SlD F w' v l := Sl.keep h ha fun _ _ hr => hr
theorem SlCp.keep {F : Nat → Prop} {w w' : World} {v : Value} {l : List Cou.Cpl} (h : SlCp F w v l) (ha : Agree F w w') : SlCp F w' v l := Sl.keep h ha fun _ _ hr => hr
theorem SlD.open {F : Nat → Prop} {w : World} {v : Value} {l : List (Int × Int)} (h : SlD F w v l) : ∃ A c, v = .slice A l.length c ∧ l.length ≤ c ∧
    ∀ i (hi : i < l.length), ∃ ad, A = some ad ∧ F ad.block ∧ Flds w (ad.add (i * 2)) [.int .i64 l[i].1, .int .i64 l[i].2] := by
  obtain ⟨A, c, hv, hc, _, hi⟩ := h
  refine ⟨A, c, hv, hc, fun i hil => ?_⟩
  obtain ⟨ad, cs, hA, hF, hk, hr, hcell⟩ := hi i hil
  unfold CmpC at hr
  subst hr
  exact ⟨ad, hA, hF, hcell⟩
theorem SlCp.open {F : Nat → Prop} {w : World} {v : Value} {l : List Cou.Cpl} (h : SlCp F w v l) : ∃ A c, v = .slice A l.length c ∧ l.length ≤ c ∧
    ∀ i (hi : i < l.length), ∃ ad, A = some ad ∧ F ad.block ∧ Flds w (ad.add (i * 5)) [.string l[i].name, .int .i64 l[i].from_, .int .i64 l[i].to, .int .i64 l[i].shift, .bool l[i].thru] := by
  obtain ⟨A, c, hv, hc, _, hi⟩ := h
  refine ⟨A, c, hv, hc, fun i hil => ?_⟩
  obtain ⟨ad, cs, hA, hF, hk, hr, hcell⟩ := hi i hil
  unfold CplC at hr
  subst hr
  exact ⟨ad, hA, hF, hcell⟩
/-- An action in memory. -/
structure AcAt (F : Nat → Prop) (w : World) (vd vc : Value) (a : Cou.Ac) : Prop where
  inW : ∀ b, F b → b < w.heap.size
  dv : SlD F w vd a.divs
  cp : SlCp F w vc a.cps
theorem AcAt.on {F : Nat → Prop} {w w' : World} {vd vc : Value} {a : Cou.Ac} (h : AcAt F w vd vc a) (hb : Below w.heap.size w w') : AcAt F w' vd vc a :=
  ⟨fun b q => Nat.lt_of_lt_of_le (h.inW b q) hb.size, h.dv.keep (Agree.below hb h.inW), h.cp.keep (Agree.below hb h.inW)⟩
/-- It lies wherever what lies below B lies. -/
theorem AcAt.onB {F : Nat → Prop} {B : Nat} {w w' : World} {vd vc : Value} {a : Cou.Ac} (h : AcAt F w vd vc a) (hF : ∀ b, F b → b < B) (hb : Below B w w') : AcAt F w' vd vc a :=
  ⟨fun b q => Nat.lt_of_lt_of_le (h.inW b q) hb.size, h.dv.keep (Agree.below hb hF), h.cp.keep (Agree.below hb hF)⟩
/-- What step answers. -/
def stepV : Option Cou.Ct → Value
  | some t => .tuple #[.agg #[.int .i64 t.1, .int .i64 t.2], .bool true]
  | none => .tuple #[.agg #[.int .i64 0, .int .i64 0], .bool false]
end Go.Proofs.YtnphdmiondccgaaDoor
namespace Go.Proofs.YtnphdmiondccgaaDoor
open Go Go.RowKit Go.Shelf
attribute [local go_sem] Oper.semAt_some
/-- The table of TrailingZeros64 lies in its variable. -/
def Tab64 (w : World) : Prop := TabAt 0 Lib.deBruijn64tab w
theorem Tab64.below {w w' : World} (h : Tab64 w) (hb : Below w.heap.size w w') : Tab64 w' := fun j hj => (hb.cell (p := ⟨0, j, none⟩) (World.block_lt_of_cell? _ _ (h j hj))).trans (h j hj)
theorem Tab64.onB {B : Nat} {w w' : World} (h : Tab64 w) (hB : 0 < B) (hb : Below B w w') : Tab64 w' := fun j hj => (hb.cell (p := ⟨0, j, none⟩) hB).trans (h j hj)
set_option maxHeartbeats 1000000 in
theorem tz64_core (x k idx : Nat) (w : World) (hx0 : ((x : Int) == 0) = false)
    (key : IntKind.u64.wrap (bits BinOp.and IntKind.u64 (x : Int) (IntKind.u64.wrap (-(x : Int))) * 285870213051353865) / 288230376151711744 = (idx : Int))
    (hi : idx < 64) (hk : k < 64) (hcell : w.cell? ⟨0, idx, none⟩ = some (.int .u8 k)) :
    Calls Tryd.prog 51 #[.int .u64 x] w fun e w' => e = .returned (.int .i64 k) ∧ w = w' := by
  go_enter Tryd.func51, Tryd.ntmps51
  go_wp2_with (simp only [key])
  go_ret
  exact ⟨rfl, rfl⟩
theorem tz64_any (x : Nat) (h0 : x ≠ 0) (hx : x < 18446744073709551616) (w : World) (hT : Tab64 w) :
    Calls Tryd.prog 51 #[.int .u64 x] w fun e w' => e = .returned (.int .i64 (Hit.tz x : Nat)) ∧ w = w' := by
  obtain ⟨hlow, hk⟩ := Lib.lowest_bit 64 x h0 hx
  obtain ⟨hi, hd⟩ := Lib.deBruijn64_at _ hk
  have hcell := hT _ (by exact hi)
  rw [hd] at hcell
  rw [Hit.tz_ctz 64 x (by decide) h0 hx]
  exact tz64_core x _ _ w (by simp; omega) (tz64_key x _ hx h0 hlow) hi hk hcell
end Go.Proofs.YtnphdmiondccgaaDoor
namespace Go.Proofs.YtnphdmiondccgaaDoor
open Go Go.RowKit
open Go.Maps (Keyed)
/-- A contact as a value. -/
def ctV (c : Cou.Ct) : Value := .agg #[.int .i64 c.1, .int .i64 c.2]
def CtC (_ : World) (cs : List Value) (c : Cou.Ct) : Prop := cs = [.int .i64 c.1, .int .i64 c.2]
abbrev SlCt (F : Nat → Prop) (w : World) (v : Value) (l : List Cou.Ct) : Prop := Sl F 2 CtC w v l
theorem ctV_inj {a b : Cou.Ct} (h : ctV a = ctV b) : a = b := by
  unfold ctV at h
  simp at h
  exact Prod.ext h.1 h.2
/-- Small numbers. -/
def CtS (c : Cou.Ct) : Prop := -1000 ≤ c.1 ∧ c.1 ≤ 1000 ∧ -1000 ≤ c.2 ∧ c.2 ≤ 1000
theorem wf_i64 {a : Int} (h : -1000 ≤ a ∧ a ≤ 1000) : (Lit.int .i64 a).wf = true := by
  have := wf_wrap .i64 a
  rwa [show IntKind.i64.wrap a = a by simp [IntKind.wrap, IntKind.bits, IntKind.signed]; omega] at this
/-- The map of the contacts that have been seen. -/
def SeenC (l : List Cou.Ct) (mb : Nat) (w : World) : Prop := ∃ es, MapAt w mb es ∧ (∀ p ∈ es, ∃ c ∈ l, p = (ctV c, .bool true)) ∧ ∀ c ∈ l, (ctV c, .bool true) ∈ es
theorem zeroBo (w : World) : (zeroValue 4).run Tryd.prog w = .ok (.bool false) w := by kernel_rfl
theorem SeenC.lt {l : List Cou.Ct} {mb : Nat} {w : World} (h : SeenC l mb w) : mb < w.heap.size := by
  obtain ⟨es, h1, _⟩ := h
  exact h1.lt
theorem SeenC.of_block {l : List Cou.Ct} {mb : Nat} {w w' : World} (h : SeenC l mb w) (e : w'.heap[mb]? = w.heap[mb]?) : SeenC l mb w' := by
  obtain ⟨es, h1, h2⟩ := h
  exact ⟨es, h1.of_block e, h2⟩
section
variable {F : Fence} {m : Nat} {P : Program} {ops : Array Oper} {rest : List Oper} {o : Oper} {a : Act} {Q : Exit → Act → World → Prop} {w : World}
/-- An append to a row of one's own, within a fence. -/
theorem wpListIn_appS {t e : TypeId} {k bytes : Nat} (E : ElemN P t e k bytes) (hk : 0 < k) (hgd : o.guard = none) (s x : Operand) (ho : o.op = .call { callee := .builtin .append, args := #[s, x], argTypes := #[t, t] })
    (base : Nat) (v : Value) (n : Nat) (xs : List Value) (hs : a.eval s = v) (hown : w.ownsRow base e k v n xs) (ad : Addr) (c : Nat) (news : List Value) (hx : a.eval x = .slice (some ad) 1 c)
    (hl : news.length = k) (hnews : Flds w ad news) (h1 : ∀ u ∈ news, u.oneCell' = true) (hn : n + 1 ≤ 1000000000) (hb : bytes ≤ 1000) (hbase : base ≤ w.heap.size)
    (h : ∀ g cap w', w'.ownsRow base e k (.slice (some ⟨g, 0, none⟩) (n + 1) cap) (n + 1) (xs ++ news) → w.grownBy w' v.ownBlock → (some g = v.ownBlock ∨ g = w.heap.size) → wpListIn F m P ops Q rest (a.put o.dst (.slice (some ⟨g, 0, none⟩) (n + 1) cap)) w') : wpListIn F m P ops Q (o :: rest) a w := by
  refine wpListIn_plain hgd fun K hK' => ?_
  obtain ⟨ht, i, z, hi, hz, hsz, hby, hzs⟩ := E
  obtain ⟨v', w', hrun, h2, h3, _, h5⟩ := run_append_own_at (P := P) w base t o.type e i z k bytes ht hi hz hsz hby hzs hk v n xs hown ad 1 c news (by omega) hnews h1
    (by unfold maxLen; omega) (by have : (n + 1) * bytes ≤ 1000000000 * 1000 := Nat.mul_le_mul hn hb
                                  omega) hbase
  obtain ⟨g, cap, rfl⟩ := own_lit h2
  unfold Oper.wpIn
  refine ⟨?_, ?_⟩
  · simp [Oper.about, ho, resolve, Target.leads, Sem.run_pure]
  · rw [Oper.semAt_plain F _ _ (by rw [ho]; intro c hc'; cases hc')]
    simp [execOp, ho, resolve, invoke, builtin, hs, hx, hrun, Result.andThen]
    exact hK' _ _ (h g cap w' h2 h3 (by simpa [Value.ownBlock] using h5))
end
/-- The blocks lie in order. -/
structure QOrd (ab qb mb sb base : Nat) : Prop where
  aq : ab < qb
  qm : qb < mb
  ms : mb < sb
  sb_ : sb < base
section
variable {ab qb mb sb base : Nat} {vd vc : Value} {dr : Nat} {v : Value} {Q : List Cou.Ct} {w w' : World}
theorem Blk.not_turned {b : Nat} {t : TypeId} {cs : Array Value} {row : Option Nat} (h : Blk w b t cs) (hr : ∀ r, row = some r → ∃ o : Obj, w.heap[r]? = some o ∧ o.isCells = false) : some b ≠ row := fun e => by
  obtain ⟨o, ho, hc⟩ := hr b e.symm
  have h2 : w.heap[b]? = some (.cells cs t (0, 0)) := h
  rw [h2] at ho
  injection ho with ho
  subst ho
  cases hc
end
end Go.Proofs.YtnphdmiondccgaaDoor
