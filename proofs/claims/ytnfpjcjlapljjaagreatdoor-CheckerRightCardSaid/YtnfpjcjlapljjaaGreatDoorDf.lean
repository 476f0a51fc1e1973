/- Rows in a field of a block; words of a plan of an organ, and the organ that it describes. -/
import Derived.Test.YtnfpjcjlapljjaaGreatDoorDi
namespace Go.Proofs.YtnfpjcjlapljjaaGreatDoor
open Go Go.RowKit Go.Shelf
open Org
theorem grown_belowO {a w w' : World} {row : Option Nat} (h : a.grownBy w row) (hb : Below w.heap.size w w') : a.grownBy w' row :=
  ⟨hb.os.trans h.os, hb.tape.trans h.tape, hb.output.trans h.output, Nat.le_trans h.size hb.size, fun q h1 h2 => (hb.block q (Nat.lt_of_lt_of_le h1 h.size)).trans (h.block q h1 h2)⟩
theorem grown_appO {a w w' : World} {row r2 : Option Nat} (h : a.grownBy w row) (hg : w.grownBy w' r2) (hr : ∀ b, r2 = some b → a.heap.size ≤ b) : a.grownBy w' row :=
  ⟨hg.os.trans h.os, hg.tape.trans h.tape, hg.output.trans h.output, Nat.le_trans h.size hg.size, fun q h1 h2 => (hg.block q (Nat.lt_of_lt_of_le h1 h.size) (fun e => by have := hr q e.symm; omega)).trans (h.block q h1 h2)⟩
theorem grown_transO {a w w' : World} {row : Option Nat} (h : a.grownBy w row) (hg : w.grownBy w' row) : a.grownBy w' row :=
  ⟨hg.os.trans h.os, hg.tape.trans h.tape, hg.output.trans h.output, Nat.le_trans h.size hg.size, fun q h1 h2 => (hg.block q (Nat.lt_of_lt_of_le h1 h.size) h2).trans (h.block q h1 h2)⟩
section
variable {α : Type} {base : Nat} {e t : TypeId} {k : Nat} {R : (Nat → Prop) → World → List Value → α → Prop} {a w w' w8 : World} {v v' : Value} {l : List α}
/-- A store far from a row leaves it. -/
theorem OwnF.far (hR : RelF R) (h : OwnF base e k R w v l) {p : Addr} (hp : p.block < base) (u : Value) : OwnF base e k R (w.setCell p u) v l :=
  OwnL.keep (R' := R fun b => (base ≤ b ∧ b < (w.setCell p u).heap.size) ∧ v.ownBlock ≠ some b) h rfl
    (fun _ hx => hx.kept (row := some p.block) ⟨rfl, rfl, rfl, by simp [World.setCell], fun i hi hr => Below.heap_setCell _ _ _ i (fun e => hr (by rw [e]))⟩ (.inr fun e => by have := (OwnL.lt h _ e).1; omega))
    fun _ _ q => hR.mono (hR.keep q (Agree.setCell _ fun b hb e => by have := hb.1.1; omega)) fun b hb => ⟨⟨hb.1.1, by simpa [World.setCell] using hb.1.2⟩, hb.2⟩
/-- A row of the call's own in a field of a block ob; what lay in the world a lies there still, but for ob. -/
structure InF (a : World) (ob : Nat) (t : TypeId) (e : TypeId) (k : Nat) (R : (Nat → Prop) → World → List Value → α → Prop) (cs : Value → List Value) (w : World) (v : Value) (l : List α) : Prop where
  blk : Blk w ob t (cs v).toArray
  own : OwnF a.heap.size e k R w v l
  grown : a.grownBy w (some ob)
theorem InF.below {ob : Nat} {cs : Value → List Value} (hR : RelF R) (h : InF a ob t e k R cs w v l) (hb : Below w.heap.size w w') : InF a ob t e k R cs w' v l :=
  ⟨h.blk.below hb h.blk.lt, h.own.below hR hb, grown_belowO h.grown hb⟩
theorem InF.start {ob : Nat} {cs : Value → List Value} (h : Blk a ob t (cs (.slice none 0 0)).toArray) : InF a ob t e k R cs a (.slice none 0 0) ([] : List α) :=
  ⟨h, OwnF.nil, only_of_below (B0 a) _⟩
theorem InF.ne {ob : Nat} {cs : Value → List Value} (h : InF a ob t e k R cs w v l) (hob : ob < a.heap.size) : some ob ≠ v.ownBlock := fun q => by have := (h.own.lt ob q.symm).1; omega
/-- Behind the append, and the store of its result in the field. -/
theorem InF.app {ob : Nat} {cs : Value → List Value} {y : α} (hR : RelF R) (h : InF a ob t e k R cs w v l) (ho : OwnF a.heap.size e k R w8 v' (l ++ [y])) (hg : w.grownBy w8 v.ownBlock) (hob : ob < a.heap.size) (j : Nat)
    (hj : (cs v).toArray.setIfInBounds j v' = (cs v').toArray) : InF a ob t e k R cs (w8.setCell ⟨ob, j, none⟩ v') v' (l ++ [y]) where
  blk := by
    have h1 := (h.blk.grown hg (h.ne hob)).set_ j v'
    rw [hj] at h1
    exact h1
  own := ho.far hR hob v'
  grown := only_setCell (grown_appO h.grown hg fun b q => (h.own.lt b q).1) (.inl rfl) v'
theorem InF.under {ob : Nat} {cs : Value → List Value} {w1 : World} (h : InF a ob t e k R cs w v l) (hb : Below w1.heap.size w1 a) (hob : w1.heap.size ≤ ob) : Below w1.heap.size w1 w :=
  hb.grown h.grown hb.size fun q e => by injection e with e; omega
end
section
variable {α : Type} {k lim : Nat} {e : TypeId} {R : (Nat → Prop) → World → List Value → α → Prop} {w w' : World} {v : Value} {y : α}
/-- A value, and a row of it alone: further blocks lie from lim on. -/
def AggA (R : (Nat → Prop) → World → List Value → α → Prop) (k lim : Nat) (w : World) (s : Value) (y : α) : Prop := ∃ cs : List Value, s = .agg cs.toArray ∧ cs.length = k ∧ R (fun b => lim ≤ b ∧ b < w.heap.size) w cs y
def RowA (R : (Nat → Prop) → World → List Value → α → Prop) (e : TypeId) (k lim : Nat) (w : World) (s : Value) (y : α) : Prop := ∃ g cs, s = .slice (some ⟨g, 0, none⟩) 1 1 ∧ Blk w g e cs.toArray ∧ cs.length = k ∧ R (fun b => lim ≤ b ∧ b < w.heap.size) w cs y
theorem AggA.below (hR : RelF R) (h : AggA R k lim w v y) (hb : Below w.heap.size w w') : AggA R k lim w' v y := by
  obtain ⟨cs, q, hl, hr⟩ := h
  exact ⟨cs, q, hl, hR.mono (hR.keep hr (Agree.below hb fun _ h => h.2)) fun b h => ⟨h.1, Nat.lt_of_lt_of_le h.2 hb.size⟩⟩
theorem RowA.below (hR : RelF R) (h : RowA R e k lim w v y) (hb : Below w.heap.size w w') : RowA R e k lim w' v y := by
  obtain ⟨g, cs, q, hk, hl, hr⟩ := h
  exact ⟨g, cs, q, hk.below hb hk.lt, hl, hR.mono (hR.keep hr (Agree.below hb fun _ h => h.2)) fun b h => ⟨h.1, Nat.lt_of_lt_of_le h.2 hb.size⟩⟩
theorem RowA.new (hR : RelF R) {cs : List Value} (hl : cs.length = k) (hr : R (fun b => lim ≤ b ∧ b < w.heap.size) w cs y) : RowA R e k lim (w.alloc (.cells cs.toArray e)) (.slice (some ⟨w.heap.size, 0, none⟩) 1 1) y :=
  ⟨_, cs, rfl, Blk.new _ _ _, hl, hR.mono (hR.keep hr (Agree.alloc _ fun _ h => h.2)) fun b h => ⟨h.1, by simp; omega⟩⟩
theorem flds_blk {g : Nat} {cs : List Value} (h : Blk w g e cs.toArray) : Flds w ⟨g, 0, none⟩ cs := fun j u hu => by
  have := h.cell j
  rw [List.getElem?_toArray, hu] at this
  rw [add_g, Nat.zero_add]
  exact this
end
/-- A block of a type, made from lim on. -/
def NewT (lim : Nat) (t : TypeId) (w : World) (c : Nat) : Prop := (lim ≤ c ∧ c < w.heap.size) ∧ ∃ cs, Blk w c t cs
theorem NewT.below {lim c : Nat} {t : TypeId} {w w' : World} (h : NewT lim t w c) (hb : Below w.heap.size w w') : NewT lim t w' c := by
  obtain ⟨h1, cs, hk⟩ := h
  exact ⟨⟨h1.1, Nat.lt_of_lt_of_le h1.2 hb.size⟩, cs, hk.below hb h1.2⟩
theorem NewT.more {lim lim' c : Nat} {t : TypeId} {w : World} (h : NewT lim t w c) (hl : lim' ≤ lim) : NewT lim' t w c := ⟨⟨Nat.le_trans hl h.1.1, h.1.2⟩, h.2⟩
theorem OwnL.typed {α : Type} {base : Nat} {e : TypeId} {k : Nat} {R : World → List Value → α → Prop} {w : World} {v : Value} {l : List α} (h : OwnL base e k R w v l) (b : Nat) (hb : v.ownBlock = some b) : ∃ cs, Blk w b e cs := by
  obtain ⟨cs, -, -, -, h3⟩ := h
  rcases h3 with ⟨rfl, -⟩ | ⟨g, cap, cur, rfl, -, hh, -⟩
  · cases hb
  · injection hb with hb
    exact ⟨cur, by rw [← hb]; exact hh⟩
theorem OwnF.slT {α : Type} {base : Nat} {e : TypeId} {k : Nat} {R : (Nat → Prop) → World → List Value → α → Prop} {w : World} {v : Value} {l : List α} (h : OwnF base e k R w v l) (hl : l.length ≤ 140737488355328)
    (hR : ∀ {F G : Nat → Prop} {cs : List Value} {x : α}, R F w cs x → R G w cs x) : Sl (NewT base e w) k (R (NewT base e w)) w v l :=
  (OwnL.sl h hl (fun b h1 h2 h3 => ⟨⟨h1, h2⟩, OwnL.typed h b h3⟩)).monoR fun _ _ q => hR q
namespace Org
/-- Law 18's descriptions of a division, of a coupler, of an organ. -/
structure Bd where
  lo : Nat
  ks : Nat
  ped : Bool
  stops : List Pl
structure Lnk where
  src : Nat
  dst : Nat
  sh : Int
  thr : Bool
structure Pn where
  ranks : List P14
  divs : List Bd
  cpls : List Lnk
structure Bd.Ok (x : Bd) : Prop where
  lo : x.lo < 256
  ks : x.ks < 256
  stops : ∀ s ∈ x.stops, s.Ok
structure Lnk.Ok (x : Lnk) : Prop where
  src : x.src < 256
  dst : x.dst < 256
  sh : -128 ≤ x.sh ∧ x.sh ≤ 127
structure Pn.Ok (x : Pn) : Prop where
  ranks : ∀ r ∈ x.ranks, r.Ok
  divs : ∀ r ∈ x.divs, r.Ok
  cpls : ∀ r ∈ x.cpls, r.Ok
structure Pn.Fits (x : Pn) : Prop where
  r1 : 1 ≤ x.ranks.length
  r3 : x.ranks.length ≤ 3
  d1 : 1 ≤ x.divs.length
  d3 : x.divs.length ≤ 3
  c3 : x.cpls.length ≤ 3
  s3 : ∀ d ∈ x.divs, d.stops.length ≤ 3
def mkDv (rs : List Rnk) (b : Bd) (i : Nat) : Dvs := ⟨⟨#[68]⟩ ++ digS i, b.ped, ((36 + b.lo % 12 : Nat) : Int), ((36 + b.lo % 12 + b.ks % 9 : Nat) : Int), b.stops.mapIdx fun k s => mkStp rs (36 + b.lo % 12) (b.ks % 9) s k⟩
def mkCp (n : Nat) (c : Lnk) (i : Nat) : Cpl := ⟨⟨#[67]⟩ ++ digS i, ((c.src % n : Nat) : Int), ((c.dst % n : Nat) : Int), if c.src % n = c.dst % n ∧ c.sh.tmod 25 = 0 then 12 else c.sh.tmod 25, c.thr⟩
def mkRs (x : Pn) : List Rnk := x.ranks.mapIdx fun i r => mkRnk r i
/-- The organ of a plan. -/
def mkOg (x : Pn) : Og := ⟨⟨#[79, 114, 103, 97, 110]⟩, mkRs x, x.divs.mapIdx fun i b => mkDv (mkRs x) b i, x.cpls.mapIdx fun i c => mkCp x.divs.length c i⟩
theorem mkRs_len (x : Pn) : (mkRs x).length = x.ranks.length := by simp [mkRs]
theorem mkRs_ft (x : Pn) : FtR (mkRs x) := fun r hr => by
  unfold mkRs at hr
  obtain ⟨i, hi, rfl⟩ := List.mem_mapIdx.1 hr
  exact ⟨_, _, rfl, rfl, ft02_ok _⟩
theorem mapIdx_take {α β : Type} (f : Nat → α → β) (l : List α) (k : Nat) (h : k < l.length) : (l.take (k + 1)).mapIdx f = (l.take k).mapIdx f ++ [f k l[k]] := by
  rw [List.take_succ_eq_append_getElem h, List.mapIdx_concat, List.length_take, Nat.min_eq_left (by omega)]
end Org
def P14C (_ : World) (cs : List Value) (x : P14) : Prop := cs = x.cs
def PlC (_ : World) (cs : List Value) (x : Pl) : Prop := cs = x.cs
def LnkC (_ : World) (cs : List Value) (x : Lnk) : Prop := cs = [.int .u8 (x.src : Int), .int .u8 (x.dst : Int), .int .i8 x.sh, .bool x.thr]
def BdC (F : Nat → Prop) (w : World) (cs : List Value) (x : Bd) : Prop := ∃ v, cs = [.int .u8 (x.lo : Int), .int .u8 (x.ks : Int), .bool x.ped, v] ∧ Sl F 4 PlC w v x.stops
theorem relBd : RelF BdC := ⟨fun ⟨v, e, q⟩ ha => ⟨v, e, Sl.keep q ha fun _ _ h => h⟩, fun ⟨v, e, q⟩ hF => ⟨v, e, Sl.mono q hF⟩⟩
end Go.Proofs.YtnfpjcjlapljjaaGreatDoor
