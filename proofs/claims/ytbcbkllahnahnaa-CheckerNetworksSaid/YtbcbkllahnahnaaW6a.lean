/- Walks: the statement's own network: whatever the items, a right network over 4 variables. -/
import Derived.Test.YtbcbkllahnahnaaW5
import Derived.Test.YtbcbkllahnahnaaApp
import Derived.StillTailTactics
import Derived.Deep.RegionLaw
namespace Go.Proofs.Ytbcbkllahnahnaa
open Go Go.RowKit

/-- A cell that is a byte. -/
def ByteC (_ : World) (cs : List Value) (x : Int) : Prop := cs = [.int .u8 x] ∧ 0 ≤ x ∧ x ≤ 255
abbrev SlB (F : Nat → Prop) (w : World) (v : Value) (l : List Int) : Prop := Sl F 1 ByteC w v l
theorem SlB.keep {F : Nat → Prop} {w w' : World} {v : Value} {l : List Int} (h : SlB F w v l) (ha : Agree F w w') : SlB F w' v l := Sl.keep h ha fun _ _ hr => hr
theorem SlB.open {F : Nat → Prop} {w : World} {v : Value} {l : List Int} (h : SlB F w v l) : ∃ A c, v = .slice A l.length c ∧ l.length ≤ c ∧ l.length ≤ 140737488355328 ∧
    ∀ i (hi : i < l.length), ∃ ad, A = some ad ∧ F ad.block ∧ w.cell? (ad.add i) = some (.int .u8 l[i]) ∧ 0 ≤ l[i] ∧ l[i] ≤ 255 := by
  obtain ⟨A, c, hv, hc, hl, hi⟩ := h
  refine ⟨A, c, hv, hc, hl, fun i hil => ?_⟩
  obtain ⟨ad, cs, hA, hF, hk, ⟨rfl, h0, h1⟩, hcell⟩ := hi i hil
  exact ⟨ad, hA, hF, by simpa using hcell.f0 rfl, h0, h1⟩
/-- Cells that are an item. -/
def ItemC (F : Nat → Prop) (w : World) (cs : List Value) (g : Gate) : Prop := ∃ u, cs = [.int .u8 g.kind, .int .u8 g.arg, u] ∧ 0 ≤ g.kind ∧ g.kind ≤ 255 ∧ 0 ≤ g.arg ∧ g.arg ≤ 255 ∧ SlB F w u g.ins
abbrev SlT (F : Nat → Prop) (w : World) (v : Value) (l : List Gate) : Prop := Sl F 3 (ItemC F) w v l
theorem SlT.keep {F : Nat → Prop} {w w' : World} {v : Value} {l : List Gate} (h : SlT F w v l) (ha : Agree F w w') : SlT F w' v l :=
  Sl.keep h ha fun _ _ ⟨u, e, a, b, c, d, hr⟩ => ⟨u, e, a, b, c, d, hr.keep ha⟩
theorem SlT.open {F : Nat → Prop} {w : World} {v : Value} {l : List Gate} (h : SlT F w v l) : ∃ A c, v = .slice A l.length c ∧ l.length ≤ c ∧ l.length ≤ 140737488355328 ∧
    ∀ i (hi : i < l.length), ∃ ad u, A = some ad ∧ F ad.block ∧ 0 ≤ l[i].kind ∧ l[i].kind ≤ 255 ∧ 0 ≤ l[i].arg ∧ l[i].arg ≤ 255 ∧ SlB F w u l[i].ins ∧ Flds w (ad.add (i * 3)) [.int .u8 l[i].kind, .int .u8 l[i].arg, u] := by
  obtain ⟨A, c, hv, hc, hl, hi⟩ := h
  refine ⟨A, c, hv, hc, hl, fun i hil => ?_⟩
  obtain ⟨ad, cs, hA, hF, hk, ⟨u, rfl, h0, h1, h2, h3, hr⟩, hcell⟩ := hi i hil
  exact ⟨ad, u, hA, hF, h0, h1, h2, h3, hr, hcell⟩

theorem info3 : (Try.prog.info? 3).map (fun i => (i.zero, i.size, i.bytes)) = some (some (.int .i64 0), 1, 8) := by kernel_rfl
theorem elem30 : ElemN Try.prog 30 3 1 8 := ⟨Try.underlying30, by
  obtain ⟨i, hi, hz, hs, hb⟩ := info_parts info3
  exact ⟨i, _, hi, hz, hs, hb, rfl⟩⟩
theorem info38 : (Try.prog.info? 38).map (fun i => (i.zero, i.size, i.bytes)) = some (some (.agg #[.int .i64 0, .int .i64 0, .slice none 0 0]), 3, 40) := by kernel_rfl
theorem elem29 : ElemN Try.prog 29 38 3 40 := ⟨Try.underlying29, by
  obtain ⟨i, hi, hz, hs, hb⟩ := info_parts info38
  exact ⟨i, _, hi, hz, hs, hb, rfl⟩⟩

/-- Where the inputs of gates lie: not in the gates' own row. -/
def InsF (base : Nat) (w : World) (gv : Value) : Nat → Prop := fun b => base ≤ b ∧ b < w.heap.size ∧ some b ≠ gv.ownBlock
/-- Right gates with few inputs. -/
def GOk (gates : List Gate) : Prop := gatesOk 4 0 gates = true ∧ ∀ g ∈ gates, g.ins.length ≤ 5
def NetInv (w : World) (i : Nat) (wr : World) : Prop :=
  Below w.heap.size w wr ∧ Blk wr w.heap.size 32 #[.slice none 0 0, .slice none 0 0] ∧ ∃ gv gates, Blk wr (w.heap.size + 1) 32 #[gv, .slice none 0 0] ∧ gates.length = i ∧ GOk gates ∧
    OwnL (w.heap.size + 2) 38 3 (GateC (InsF (w.heap.size + 2) wr gv)) wr gv gates

theorem SlB.at {F : Nat → Prop} {w : World} {A : Option Addr} {n c : Nat} {l : List Int} (h : SlB F w (.slice A n c) l) : ∀ i (hi : i < l.length), ∃ ad, A = some ad ∧ F ad.block ∧ w.cell? (ad.add i) = some (.int .u8 l[i]) ∧ 0 ≤ l[i] ∧ l[i] ≤ 255 := by
  obtain ⟨A', c', hv, _, _, hat⟩ := h.open
  injection hv with e
  subst e
  exact hat
def intsV (l : List Int) : List Value := l.map (Value.int .i64)
theorem intsV_flat (l : List Int) : intsV l = (l.map fun x => [Value.int .i64 x]).flatten := by
  induction l with
  | nil => rfl
  | cons x l ih => simp only [intsV, List.map_cons, List.flatten_cons] at *; rw [ih]; rfl
theorem SlI.of_own {w : World} {F : Nat → Prop} {base : Nat} {e : TypeId} {v : Value} {l : List Int} (h : w.ownsRow base e 1 v l.length (intsV l)) (hl : l.length ≤ 140737488355328)
    (hF : ∀ b, base ≤ b → b < w.heap.size → v.ownBlock = some b → F b) : SlI F w v l :=
  Sl.of_own (cs := l.map fun x => [.int .i64 x]) h rfl hl (intsV_flat l) (by simp) (fun i hi => ⟨[.int .i64 l[i]], by simp [hi], rfl, rfl⟩) hF
/-- The inputs of the gate at hand. -/
def InsInv (wo : World) (kd : Int) (i j : Nat) (wi : World) : Prop :=
  Below wo.heap.size wo wi ∧ ∃ insv l, Blk wi wo.heap.size 38 #[.int .i64 kd, .int .i64 0, insv] ∧ l.length = j ∧ (∀ x ∈ l, 0 ≤ x ∧ x ≤ (i : Int) - 1) ∧ wi.ownsRow (wo.heap.size + 1) 3 1 insv j (intsV l)
theorem cell_grown {w wb w' : World} {base : Nat} {e : TypeId} {k n : Nat} {v : Value} {xs : List Value} (hg : w.grownBy w' v.ownBlock) (ho : wb.ownsRow base e k v n xs) {b o : Nat} (h1 : b < w.heap.size) (h2 : b < base) : w'.cell? ⟨b, o, none⟩ = w.cell? ⟨b, o, none⟩ :=
  World.cell?_of_block (w := w) (hg.block b h1 fun e => by have := (ho.lt b e.symm).1; omega)
theorem frozen_grown {w wb w' : World} {base : Nat} {e : TypeId} {k n : Nat} {v : Value} {xs : List Value} (hg : w.grownBy w' v.ownBlock) (ho : wb.ownsRow base e k v n xs) {b o : Nat} (h1 : b < w.heap.size) (h2 : b < base) : w'.frozen? ⟨b, o, none⟩ = w.frozen? ⟨b, o, none⟩ :=
  World.frozen?_of_block (w := w) (hg.block b h1 fun e => by have := (ho.lt b e.symm).1; omega)
theorem gatesOk_snoc (vars : Int) (l : List Gate) (g : Gate) : ∀ i, gatesOk vars i (l ++ [g]) = (gatesOk vars i l && gateOk vars (i + l.length) g) := by
  induction l with
  | nil => intro i; simp [gatesOk]
  | cons x r ih => intro i; simp only [List.cons_append, gatesOk, ih, List.length_cons, Bool.and_assoc]; rw [show i + 1 + r.length = i + (r.length + 1) from by omega]

theorem netInv_next {w wo wi w1 : World} {i : Nat} {gv v' insv : Value} {gates : List Gate} {cs : List (List Value)} {kd ar : Int} {l : List Int}
    (BW : Below w.heap.size w wo) (B4 : Blk wo w.heap.size 32 #[.slice none 0 0, .slice none 0 0]) (B5 : Blk wo (w.heap.size + 1) 32 #[gv, .slice none 0 0]) (hgl : gates.length = i) (hgo : GOk gates)
    (h1 : cs.length = gates.length) (h2 : ∀ j (h : j < gates.length), ∃ c, cs[j]? = some c ∧ c.length = 3 ∧ GateC (InsF (w.heap.size + 2) wo gv) wo c gates[j]) (h3 : wo.ownsRow (w.heap.size + 2) 38 3 gv gates.length cs.flatten)
    (hb : Below wo.heap.size wo wi) (hown : w1.ownsRow (w.heap.size + 2) 38 3 v' (gates.length + 1) (cs.flatten ++ [.int .i64 kd, .int .i64 ar, insv])) (hgrow : wi.grownBy w1 gv.ownBlock) (hat : v'.ownBlock = gv.ownBlock ∨ v'.ownBlock = some wi.heap.size)
    (hins : SlI (fun b => wo.heap.size ≤ b ∧ b < wi.heap.size) wi insv l) (hok : gateOk 4 i ⟨kd, ar, l⟩ = true) (hl5 : l.length ≤ 5) : NetInv w (i + 1) (w1.setCell ⟨w.heap.size + 1, 0, none⟩ v') := by
  have hsz : w.heap.size + 1 < wo.heap.size := B5.lt
  have hbi : wo.heap.size ≤ wi.heap.size := hb.size
  have hb1 : wi.heap.size ≤ w1.heap.size := hgrow.size
  have hrow : ∀ b, gv.ownBlock = some b → w.heap.size + 2 ≤ b ∧ b < wo.heap.size := h3.lt
  have hne : ∀ b, b < w.heap.size + 2 → some b ≠ gv.ownBlock := fun b hb e => by have := (hrow b e.symm).1; omega
  have hstep : ∀ b, InsF (w.heap.size + 2) wo gv b → (w1.setCell ⟨w.heap.size + 1, 0, none⟩ v').heap[b]? = wo.heap[b]? := fun b ⟨ha, hl, hn⟩ => by
    rw [Below.heap_setCell _ _ _ _ (by simp; omega), hgrow.block b (by omega) hn, hb.block b hl]
  have hsize : (w1.setCell ⟨w.heap.size + 1, 0, none⟩ v').heap.size = w1.heap.size := by simp [World.setCell]
  have hF : ∀ b, w.heap.size + 2 ≤ b → b < wi.heap.size → some b ≠ gv.ownBlock → InsF (w.heap.size + 2) (w1.setCell ⟨w.heap.size + 1, 0, none⟩ v') v' b := fun b h1 h2 h3 => by
    refine ⟨h1, by rw [hsize]; omega, ?_⟩
    rcases hat with e | e <;> rw [e]
    · exact h3
    · intro e'; injection e' with e'; omega
  refine ⟨Bs ((Bt BW hb).grown hgrow (by have := BW.size; omega) (fun b e => by have := hrow b e; omega)) _ (by simp), ?_, v', gates ++ [⟨kd, ar, l⟩], ?_, by simp [hgl], ?_, ?_⟩
  · exact (((B4.below hb (by omega)).grown hgrow (hne _ (by omega))).far (p := ⟨w.heap.size + 1, 0, none⟩) (by simp) _)
  · exact ((B5.below hb (by omega)).grown hgrow (hne _ (by omega))).set_ 0 v'
  · refine ⟨by rw [gatesOk_snoc, hgo.1, hgl]; simpa using hok, fun g hg => ?_⟩
    rcases List.mem_append.1 hg with hg | hg
    · exact hgo.2 g hg
    · simp at hg; subst hg; exact hl5
  · refine OwnL.snoc h1 h2 rfl ⟨insv, rfl, ?_⟩ ?_ (ownsRow_setCell_below hown (by simp) _)
    · refine (hins.keep (w' := w1.setCell ⟨w.heap.size + 1, 0, none⟩ v') (fun b ⟨ha, hl⟩ => ?_)).mono (fun b ⟨ha, hl⟩ => hF b (by omega) hl ?_)
      · rw [Below.heap_setCell _ _ _ _ (by simp; omega), hgrow.block b hl ?_]
        intro e; have := (hrow b e.symm).2; omega
      · intro e; have := (hrow b e.symm).2; omega
    · rintro c x ⟨u, e, hr⟩
      exact ⟨u, e, (hr.keep (fun b hb => hstep b hb)).mono (fun b ⟨ha, hl, hn⟩ => hF b ha (by omega) hn)⟩

theorem insInv_next {wo wr w2 : World} {kd x : Int} {i j g cap : Nat} {insv : Value} {l : List Int} (BWi : Below wo.heap.size wo wr) (BK : Blk wr wo.heap.size 38 #[.int .i64 kd, .int .i64 0, insv]) (hl : l.length = j) (hb : ∀ x ∈ l, 0 ≤ x ∧ x ≤ (i : Int) - 1)
    (OW : wr.ownsRow (wo.heap.size + 1) 3 1 insv j (intsV l)) (h0 : 0 ≤ x) (h1 : x < i) (hown : w2.ownsRow (wo.heap.size + 1) 3 1 (.slice (some ⟨g, 0, none⟩) (j + 1) cap) (j + 1) (intsV l ++ [.int .i64 x]))
    (hg : (wr.alloc (.cells #[.int .i64 x] 3)).drew.grownBy w2 insv.ownBlock) (_ : some g = insv.ownBlock ∨ g = (wr.alloc (.cells #[.int .i64 x] 3)).drew.heap.size) :
    InsInv wo kd i (j + 1) (w2.setCell ⟨wo.heap.size, 2, none⟩ (.slice (some ⟨g, 0, none⟩) (j + 1) cap)) := by
  have hlt := BK.lt
  have hne : some wo.heap.size ≠ insv.ownBlock := fun e => by have := (OW.lt _ e.symm).1; omega
  have hB : Below wo.heap.size wo (wr.alloc (.cells #[.int .i64 x] 3)).drew := (Ba BWi _).drew
  have hK : Blk (wr.alloc (.cells #[.int .i64 x] 3)).drew wo.heap.size 38 #[.int .i64 kd, .int .i64 0, insv] := (BK.alloc _).drew
  refine ⟨Bs (hB.grown hg hB.size (fun b e => by have := (OW.lt b e).1; omega)) _ (Nat.le_refl _), _, l ++ [x], (hK.grown hg hne).set_ 2 _, by simp [hl], ?_, ?_⟩
  · intro y hy
    rcases List.mem_append.1 hy with hy | hy
    · exact hb y hy
    · simp at hy; subst hy; omega
  · refine ownsRow_setCell_below ?_ (Nat.lt_succ_self _) _
    simpa [intsV] using hown
theorem own_below {wo wr : World} {base : Nat} {e : TypeId} {k n : Nat} {v : Value} {xs : List Value} (hb : Below wo.heap.size wo wr) (h : wo.ownsRow base e k v n xs) : wr.ownsRow base e k v n xs :=
  h.kept (row := none) ⟨hb.os, hb.tape, hb.output, hb.size, fun i hi _ => hb.block i hi⟩ (by cases hv : v.ownBlock <;> simp)
theorem own_zero {w : World} {base : Nat} {e : TypeId} {k : Nat} {v : Value} {xs : List Value} (h : w.ownsRow base e k v 0 xs) : ∃ a cap, v = .slice a 0 cap := by
  rcases h.2 with ⟨rfl, _⟩ | ⟨g, cap, cur, rfl, _⟩
  · exact ⟨_, _, rfl⟩
  · exact ⟨_, _, rfl⟩
theorem own_one {w : World} {base : Nat} {e : TypeId} {k n : Nat} {v : Value} {xs : List Value} (h : w.ownsRow base e k v n xs) : v.oneCell' = true := by
  rcases h.2 with ⟨rfl, _⟩ | ⟨g, cap, cur, rfl, _⟩ <;> rfl
theorem ins_alloc {wo wr : World} {v : Value} {l : List Int} {o : Obj} (h : SlI (fun b => wo.heap.size ≤ b ∧ b < wr.heap.size) wr v l) : SlI (fun b => wo.heap.size ≤ b ∧ b < (wr.alloc o).heap.size) (wr.alloc o) v l :=
  (h.keep (Agree.alloc o fun b hb => hb.2)).mono fun b ⟨h1, h2⟩ => ⟨h1, by simp; omega⟩
theorem own_slice {w : World} {base : Nat} {e : TypeId} {k n : Nat} {v : Value} {xs : List Value} (h : w.ownsRow base e k v n xs) : ∃ a cap, v = .slice a n cap := by
  rcases h.2 with ⟨rfl, rfl⟩ | ⟨g, cap, cur, rfl, _⟩
  · exact ⟨_, _, rfl⟩
  · exact ⟨_, _, rfl⟩
/-- While the outputs are appended: the gates stand (they lie below wo's end). -/
def OutInv (w wo : World) (gv : Value) (gates : List Gate) (k : Nat) (wi : World) : Prop :=
  Below w.heap.size w wi ∧ Blk wi w.heap.size 32 #[.slice none 0 0, .slice none 0 0] ∧ (SlG (fun b => w.heap.size + 2 ≤ b ∧ b < wo.heap.size) wi gv gates ∧ wo.heap.size ≤ wi.heap.size) ∧
    ∃ ov outl, Blk wi (w.heap.size + 1) 32 #[gv, ov] ∧ outl.length = k ∧ (∀ x ∈ outl, (0 : Int) ≤ x ∧ x ≤ (gates.length : Int) - 1) ∧ wi.ownsRow wo.heap.size 3 1 ov k (intsV outl)
theorem out_keep {wr : World} {base c n : Nat} {ov u : Value} {xs : List Value} {o : Nat} (OW : wr.ownsRow base 3 1 ov n xs) (hc : c < wr.heap.size) (hb : c < base) (d : wr.cell? ⟨c, o, none⟩ = some u) (df : wr.frozen? ⟨c, o, none⟩ = false) :
    ∀ wi w1 : World, Below wr.heap.size wr wi → wi.grownBy w1 ov.ownBlock → w1.cell? ⟨c, o, none⟩ = some u ∧ w1.frozen? ⟨c, o, none⟩ = false := fun wi w1 q1 q2 =>
  ⟨(cell_grown q2 OW (by have := q1.size; omega) hb).trans ((Bc q1 hc).trans d), (frozen_grown q2 OW (by have := q1.size; omega) hb).trans ((q1.frozen (p := ⟨c, o, none⟩) hc).trans df)⟩
theorem outInv_next {w wo wr w2 : World} {gv ov : Value} {gates : List Gate} {outl : List Int} {k g cap : Nat} {x : Int} (BW : Below w.heap.size w wr) (B4 : Blk wr w.heap.size 32 #[.slice none 0 0, .slice none 0 0])
    (SG : SlG (fun b => w.heap.size + 2 ≤ b ∧ b < wo.heap.size) wr gv gates ∧ wo.heap.size ≤ wr.heap.size) (B5 : Blk wr (w.heap.size + 1) 32 #[gv, ov]) (hl : outl.length = k) (hb : ∀ x ∈ outl, (0 : Int) ≤ x ∧ x ≤ (gates.length : Int) - 1)
    (OW : wr.ownsRow wo.heap.size 3 1 ov k (intsV outl)) (hwo : w.heap.size + 2 ≤ wo.heap.size) (hx : 0 ≤ x ∧ x ≤ (gates.length : Int) - 1) (hown : w2.ownsRow wo.heap.size 3 1 (.slice (some ⟨g, 0, none⟩) (k + 1) cap) (k + 1) (intsV outl ++ [.int .i64 x]))
    (hg : (wr.alloc (.cells #[.int .i64 x] 3)).grownBy w2 ov.ownBlock) : OutInv w wo gv gates (k + 1) (w2.setCell ⟨w.heap.size + 1, 1, none⟩ (.slice (some ⟨g, 0, none⟩) (k + 1) cap)) := by
  have hlt := B5.lt
  have hrow : ∀ b, ov.ownBlock = some b → wo.heap.size ≤ b := fun b e => (OW.lt b e).1
  have hne : ∀ b, b < wo.heap.size → some b ≠ ov.ownBlock := fun b hb e => by have := hrow b e.symm; omega
  have hB : Below w.heap.size w (wr.alloc (.cells #[.int .i64 x] 3)) := Ba BW _
  have hs2 : wr.heap.size + 1 ≤ w2.heap.size := by have := hg.size; simpa using this
  refine ⟨Bs (hB.grown hg hB.size (fun b e => by have := hrow b e; omega)) _ (Nat.le_succ _), ?_, ⟨?_, by simp [World.setCell]; omega⟩, .slice (some ⟨g, 0, none⟩) (k + 1) cap, outl ++ [x], ?_, by simp [hl], ?_, ?_⟩
  · exact ((B4.alloc _).grown hg (hne _ (by omega))).far (p := ⟨w.heap.size + 1, 1, none⟩) (by simp) _
  · refine SG.1.keep fun b ⟨q1, q2⟩ => ?_
    rw [Below.heap_setCell _ _ _ _ (by simp; omega), hg.block b (by simp; omega) (hne b q2), Below.heap_alloc _ _ _ (by omega)]
  · exact ((B5.alloc _).grown hg (hne _ (by omega))).set_ 1 _
  · intro y hy
    rcases List.mem_append.1 hy with hy | hy
    · exact hb y hy
    · simp at hy; subst hy; exact hx
  · refine ownsRow_setCell_below ?_ (show w.heap.size + 1 < wo.heap.size by omega) _
    simpa [intsV] using hown
theorem gates_own {w : World} {base : Nat} {gv : Value} {gates : List Gate} (h : OwnL base 38 3 (GateC (InsF base w gv)) w gv gates) (hl : gates.length ≤ 140737488355328) : SlG (fun b => base ≤ b ∧ b < w.heap.size) w gv gates :=
  (OwnL.sl h hl (fun b q1 q2 _ => ⟨q1, q2⟩)).monoR fun _ _ ⟨u, e, hr⟩ => ⟨u, e, hr.mono fun b ⟨q1, q2, _⟩ => ⟨q1, q2⟩⟩
theorem build_end {w wo wr : World} {gv ov : Value} {gates : List Gate} {outl : List Int} {k : Nat} (BW : Below w.heap.size w wr) (hgo : GOk gates) (hgl : gates.length ≤ 10)
    (SG : SlG (fun b => w.heap.size + 2 ≤ b ∧ b < wo.heap.size) wr gv gates) (hol : outl.length = k) (hk : k ≤ 2) (hob : ∀ x ∈ outl, (0 : Int) ≤ x ∧ x ≤ (gates.length : Int) - 1) (OW : wr.ownsRow wo.heap.size 3 1 ov k (intsV outl))
    (hwo : w.heap.size + 2 ≤ wo.heap.size ∧ wo.heap.size ≤ wr.heap.size) {e : Ending} (he : e = .returned (.agg #[gv, ov])) :
    ∃ n vg vo, e = .returned (.agg #[vg, vo]) ∧ netOk 4 n = true ∧ (n.gates.length ≤ 10 ∧ ∀ g ∈ n.gates, g.ins.length ≤ 5) ∧ n.outs.length ≤ 2 ∧ NetAt (New w.heap.size ((wr.setCell ⟨w.heap.size, 0, none⟩ gv).setCell ⟨w.heap.size, 1, none⟩ ov).heap.size) ((wr.setCell ⟨w.heap.size, 0, none⟩ gv).setCell ⟨w.heap.size, 1, none⟩ ov) vg vo n ∧
      Below w.heap.size w ((wr.setCell ⟨w.heap.size, 0, none⟩ gv).setCell ⟨w.heap.size, 1, none⟩ ov) := by
  have hag : ∀ b, w.heap.size < b → ((wr.setCell ⟨w.heap.size, 0, none⟩ gv).setCell ⟨w.heap.size, 1, none⟩ ov).heap[b]? = wr.heap[b]? := fun b hb => by
    rw [Below.heap_setCell _ _ _ _ (by simp; omega), Below.heap_setCell _ _ _ _ (by simp; omega)]
  have hsz : ((wr.setCell ⟨w.heap.size, 0, none⟩ gv).setCell ⟨w.heap.size, 1, none⟩ ov).heap.size = wr.heap.size := by simp [World.setCell]
  refine ⟨⟨gates, outl⟩, gv, ov, he, ?_, ⟨hgl, hgo.2⟩, by show outl.length ≤ 2; omega, ⟨?_, ?_⟩, Bs (Bs BW _ (Nat.le_refl _)) _ (Nat.le_refl _)⟩
  · simp only [netOk, hgo.1, Bool.and_true, Bool.and_eq_true, decide_eq_true_eq, withinB, List.all_eq_true]
    exact ⟨by omega, hob⟩
  · have h1 := SlG.keep (w' := (wr.setCell ⟨w.heap.size, 0, none⟩ gv).setCell ⟨w.heap.size, 1, none⟩ ov) SG (fun b hb => hag b (by have := hb.1; omega))
    have hF : ∀ b, (w.heap.size + 2 ≤ b ∧ b < wo.heap.size) → New w.heap.size ((wr.setCell ⟨w.heap.size, 0, none⟩ gv).setCell ⟨w.heap.size, 1, none⟩ ov).heap.size b := fun b hb => ⟨by omega, by rw [hsz]; omega⟩
    exact (Sl.mono h1 hF).monoR fun _ _ ⟨u, e, hr⟩ => ⟨u, e, hr.mono hF⟩
  · have hln : outl.length ≤ 140737488355328 := by omega
    have h1 : SlI (fun b => wo.heap.size ≤ b ∧ b < wr.heap.size) wr ov outl := SlI.of_own (hol ▸ OW) hln (fun b q1 q2 _ => ⟨q1, q2⟩)
    have h2 := h1.keep (w' := (wr.setCell ⟨w.heap.size, 0, none⟩ gv).setCell ⟨w.heap.size, 1, none⟩ ov) (fun b hb => hag b (by have := hb.1; omega))
    exact h2.mono fun b hb => ⟨by have := hb.1; omega, by rw [hsz]; exact hb.2⟩
end Go.Proofs.Ytbcbkllahnahnaa
