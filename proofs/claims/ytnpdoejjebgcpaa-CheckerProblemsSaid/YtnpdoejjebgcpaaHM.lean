/- Walks over hitting: Prove. Walks over the statements of hitting: the problem of a plan. Walks over the statements of hitting: the examples that each statement asks first. Words for what Reduce leaves, and for the first set that is missed. -/
import Derived.Test.YtnpdoejjebgcpaaHNb
import Derived.Deep.RegionHeld3
import Derived.Deep.RegionLaw
import Derived.Deep.DeepCutAuto
namespace Go.Proofs.Ytnpdoejjebgcpaa
open Go Go.RowKit
/-- What Prove returns for a right problem. -/
def ProveR (n : Nat) (ws : List Nat) (size : Int) (w : World) (e : Ending) (w' : World) : Prop :=
  Below w.heap.size w w' ∧ (((size < 0 ∨ (n : Int) < size) ∧ e = .returned (.tuple #[.slice none 0 0, .int .i64 3])) ∨ ((0 ≤ size ∧ size ≤ n ∧ (Hit.pop (Hit.least ws n) : Int) < size) ∧ e = .returned (.tuple #[.slice none 0 0, .int .i64 18])) ∨
    ((0 ≤ size ∧ size ≤ n ∧ size ≤ (Hit.pop (Hit.least ws n) : Int)) ∧ ∃ pb vs A c, w.heap.size ≤ pb ∧ e = .returned (.tuple #[.slice A (Hit.nodeF ws size (n + 1) 0 0 0).length c, .int .i64 0]) ∧ PT pb vs size w' (.slice A (Hit.nodeF ws size (n + 1) 0 0 0).length c) (Hit.nodeF ws size (n + 1) 0 0 0)))
theorem free_le (n w : Nat) : Hit.free n w ≤ n := Nat.le_trans (List.length_filter_le _ _) (by simp)
end Go.Proofs.Ytnpdoejjebgcpaa
namespace Go.Proofs.Ytnpdoejjebgcpaa
open Go Go.RowKit
/-- A call as one step of a region that draws its order. -/
theorem step_call {P : Program} {ops : Array Oper} {o : Oper} {a : Act} {w : World} {K : Act → World → Prop} {Q : Exit → Act → World → Prop} {E : Prop} (hgd : o.guard = none) (g : Nat) (args : Array Operand) (tys : Array TypeId)
    (ho : o.op = .call { callee := .value (.func g), args := args, argTypes := tys }) (eg : ∀ vs w, (callFunc g vs).run P w = .ok (.enter g vs) w) (vals : Array Value) (hv : args.map a.eval = vals) {Post : Ending → World → Prop} (hc : Calls P g vals w Post)
    (h : ∀ e w', Post e w' → ∃ v, e = .returned v ∧ K (a.put o.dst v) w') : if Region.wanted o (yielded ops a.tmps) = true then Oper.wp P o a w K Q else E := by
  rw [if_pos (by simp [Region.wanted, hgd])]
  have hrun : (execOp a.eval o).run P w = .ok (.enter g vals) w := by
    unfold execOp
    simp only [ho, resolve, Sem.run_bind]
    simp [Deferred.ofValue, Act.eval, invoke, hv, eg, Result.andThen]
  unfold Oper.wp
  rw [hrun]
  refine hc.mono ?_
  rintro e w' hp
  obtain ⟨v, rfl, hk⟩ := h e w' hp
  exact hk
theorem step_call1 {P : Program} {ops : Array Oper} {o : Oper} {a : Act} {w : World} {K : Act → World → Prop} {Q : Exit → Act → World → Prop} {E : Prop} (hgd : o.guard = none) (g : Nat) (x1 : Operand) (tys : Array TypeId)
    (ho : o.op = .call { callee := .value (.func g), args := #[x1], argTypes := tys }) (eg : ∀ vs w, (callFunc g vs).run P w = .ok (.enter g vs) w) (v1 : Value) (h1 : a.eval x1 = v1) {Post : Ending → World → Prop} (hc : Calls P g #[v1] w Post)
    (h : ∀ e w', Post e w' → ∃ v, e = .returned v ∧ K (a.put o.dst v) w') : if Region.wanted o (yielded ops a.tmps) = true then Oper.wp P o a w K Q else E :=
  step_call hgd g #[x1] tys ho eg #[v1] (by simp [h1]) hc h
theorem step_call2 {P : Program} {ops : Array Oper} {o : Oper} {a : Act} {w : World} {K : Act → World → Prop} {Q : Exit → Act → World → Prop} {E : Prop} (hgd : o.guard = none) (g : Nat) (x1 x2 : Operand) (tys : Array TypeId)
    (ho : o.op = .call { callee := .value (.func g), args := #[x1, x2], argTypes := tys }) (eg : ∀ vs w, (callFunc g vs).run P w = .ok (.enter g vs) w) (v1 v2 : Value) (h1 : a.eval x1 = v1) (h2 : a.eval x2 = v2) {Post : Ending → World → Prop} (hc : Calls P g #[v1, v2] w Post)
    (h : ∀ e w', Post e w' → ∃ v, e = .returned v ∧ K (a.put o.dst v) w') : if Region.wanted o (yielded ops a.tmps) = true then Oper.wp P o a w K Q else E :=
  step_call hgd g #[x1, x2] tys ho eg #[v1, v2] (by simp [h1, h2]) hc h
namespace Hit
/-- The sets of a plan, as bits. -/
def planW (n : Nat) (sets : List Nat) : List Nat := ((sets.take 7).map fun s => s &&& (bit n - 1)).filter fun b => b != 0
theorem planW_good (n : Nat) (sets : List Nat) : Good (planW n sets) n := fun s hs => by
  unfold planW at hs
  rw [List.mem_filter, List.mem_map] at hs
  obtain ⟨⟨a, _, rfl⟩, h0⟩ := hs
  refine ⟨by simpa using h0, ?_⟩
  have : a &&& (bit n - 1) ≤ bit n - 1 := Nat.and_le_right
  have : 0 < bit n := Nat.two_pow_pos n
  unfold bit at *
  omega
theorem planW_len (n : Nat) (sets : List Nat) : (planW n sets).length ≤ 7 := by
  unfold planW
  refine Nat.le_trans (List.length_filter_le _ _) ?_
  simp
  omega
/-- The sets of the first i bytes. -/
def planTo (n : Nat) (sets : List Nat) (i : Nat) : List Nat := ((sets.take i).map fun s => s &&& (bit n - 1)).filter fun b => b != 0
theorem planTo_succ (n : Nat) (sets : List Nat) (i : Nat) (h : i < sets.length) : planTo n sets (i + 1) = planTo n sets i ++ (if sets[i] &&& (bit n - 1) = 0 then [] else [sets[i] &&& (bit n - 1)]) := by
  unfold planTo
  rw [List.take_succ_eq_append_getElem h, List.map_append, List.filter_append]
  congr 1
  by_cases e : sets[i] &&& (bit n - 1) = 0
  · simp [e]
  · simp [e]
theorem planTo_end (n : Nat) (sets : List Nat) (i : Nat) (h : i = sets.length ∨ i = 7) (h7 : i ≤ 7) : planTo n sets i = planW n sets := by
  unfold planTo planW
  rcases h with rfl | rfl
  · rw [List.take_of_length_le (Nat.le_refl _), List.take_of_length_le h7]
  · rfl
theorem planTo_len (n : Nat) (sets : List Nat) (i : Nat) : (planTo n sets i).length ≤ i := by
  unfold planTo
  refine Nat.le_trans (List.length_filter_le _ _) ?_
  simp
  omega
end Hit
theorem setsOf_append (a b : List Nat) : setsOf (a ++ b) = setsOf a ++ setsOf b := by simp [setsOf]
/-- The problem of a plan while it is made. -/
structure PM (pb : Nat) (n : Int) (w : World) (v : Value) (ls : List (List Int)) : Prop where
  blk : Blk w pb 38 #[.int .i64 n, v]
  own : OwnL (pb + 1) 26 1 (SlC (WF pb w v)) w v ls
theorem SlC.keep {F G : Nat → Prop} {w w' : World} {c : List Value} {x : List Int} (h : SlC F w c x) (ha : Agree F w w') (hF : ∀ b, F b → G b) : SlC G w' c x := by
  obtain ⟨vw, e, hs⟩ := h
  exact ⟨vw, e, (SlI.keep hs ha).mono hF⟩
section
variable {pb : Nat} {n : Int} {w w' : World} {v : Value} {ls : List (List Int)}
theorem PM.lt (h : PM pb n w v ls) : pb < w.heap.size := h.blk.lt
theorem PM.form (h : PM pb n w v ls) : ∃ A c, v = .slice A ls.length c := by
  obtain ⟨cs, _, _, h3⟩ := h.own
  exact own_form h3
theorem PM.later (h : PM pb n w v ls) (hb : Below w.heap.size w w') : PM pb n w' v ls := by
  refine ⟨h.blk.below hb h.lt, h.own.keep rfl (fun xs hx => ?_) fun c x hc => ?_⟩
  · exact hx.kept (row := none) ⟨hb.os, hb.tape, hb.output, hb.size, fun i hi _ => hb.block i hi⟩ (by cases hv : v.ownBlock <;> simp)
  · exact hc.keep (Agree.below hb fun b hF => hF.2.1) fun b ⟨q1, q2, q3⟩ => ⟨q1, Nat.lt_of_lt_of_le q2 hb.size, q3⟩
theorem PM.append {cs : List (List Value)} {w2 : World} {g cap : Nat} {u : Value} {l : List Int} (hk : Blk w pb 38 #[.int .i64 n, v]) (h1 : cs.length = ls.length) (h2 : ∀ i (h : i < ls.length), ∃ c, cs[i]? = some c ∧ c.length = 1 ∧ SlC (WF pb w v) w c ls[i])
    (h3 : w.ownsRow (pb + 1) 26 1 v ls.length cs.flatten) (hb : Below w.heap.size w w2) (hown : w'.ownsRow (pb + 1) 26 1 (.slice (some ⟨g, 0, none⟩) (ls.length + 1) cap) (ls.length + 1) (cs.flatten ++ [u]))
    (hgrow : w2.grownBy w' v.ownBlock) (hat : some g = v.ownBlock ∨ g = w2.heap.size) (hu : SlI (fun b => w.heap.size ≤ b ∧ b < w2.heap.size) w2 u l) :
    PM pb n (w'.setCell ⟨pb, 1, none⟩ (.slice (some ⟨g, 0, none⟩) (ls.length + 1) cap)) (.slice (some ⟨g, 0, none⟩) (ls.length + 1) cap) (ls ++ [l]) := by
  have hne : some pb ≠ v.ownBlock := fun e => by have := (h3.lt pb e.symm).1; omega
  have hsz : w2.heap.size ≤ w'.heap.size := hgrow.size
  have hs2 := hb.size
  have hpl : pb < w.heap.size := hk.lt
  have hF : ∀ b, pb < b → b < w2.heap.size → some b ≠ v.ownBlock → WF pb (w'.setCell ⟨pb, 1, none⟩ (.slice (some ⟨g, 0, none⟩) (ls.length + 1) cap)) (.slice (some ⟨g, 0, none⟩) (ls.length + 1) cap) b := fun b q1 q2 q3 => by
    refine ⟨q1, by rw [set_size]; omega, ?_⟩
    show some b ≠ some g
    rcases hat with e | e
    · rw [e]; exact q3
    · intro e2; injection e2; omega
  have hag : ∀ b, pb < b → b < w2.heap.size → some b ≠ v.ownBlock → (w'.setCell ⟨pb, 1, none⟩ (.slice (some ⟨g, 0, none⟩) (ls.length + 1) cap)).heap[b]? = w2.heap[b]? := fun b q1 q2 q3 => by
    rw [Below.heap_setCell _ _ _ _ (show b ≠ (⟨pb, 1, none⟩ : Addr).block by show b ≠ pb; omega), hgrow.block b q2 q3]
  refine ⟨?_, OwnL.snoc h1 h2 rfl ⟨u, rfl, ?_⟩ (fun c x hc => hc.keep (fun b ⟨q1, q2, q3⟩ => ?_) fun b ⟨q1, q2, q3⟩ => hF b q1 (by omega) q3) (ownsRow_setCell_below hown (by simp) _)⟩
  · have := ((hk.below hb hk.lt).grown hgrow hne).set_ 1 (.slice (some ⟨g, 0, none⟩) (ls.length + 1) cap)
    simpa using this
  · have hnb : ∀ b, w.heap.size ≤ b → some b ≠ v.ownBlock := fun b hb e => by have := (h3.lt b e.symm).2; omega
    exact (hu.keep (fun b ⟨q1, q2⟩ => hag b (by omega) q2 (hnb b q1))).mono fun b ⟨q1, q2⟩ => hF b (by omega) q2 (hnb b q1)
  · rw [hag b q1 (by omega) q3]; exact hb.block b q2
theorem PM.sl (h : PM pb n w v ls) (hl : ls.length ≤ 1000) : SlII (fun b => pb < b ∧ b < w.heap.size) w v ls := by
  refine (h.own.sl (F := fun b => pb < b ∧ b < w.heap.size) (by omega) fun b q1 q2 _ => ⟨by omega, q2⟩).monoR fun c x hc => ?_
  exact SlC.keep hc (Agree.refl _ _) fun b q => ⟨q.1, q.2.1⟩
end
theorem SlII.wider {F G : Nat → Prop} {w : World} {v : Value} {l : List (List Int)} (h : SlII F w v l) (hF : ∀ b, F b → G b) : SlII G w v l :=
  (Sl.mono h hF).monoR fun _ _ hc => SlC.keep hc (Agree.refl _ _) hF
theorem infoS : (Try.prog.info? 26).map (fun i => (i.zero, i.size, i.bytes)) = some (some (.slice none 0 0), 1, 24) := by kernel_rfl
theorem elemS : ElemN Try.prog 22 26 1 24 := ⟨Try.underlying22, by
  obtain ⟨i, hi, hz, hs, hb⟩ := info_parts infoS
  exact ⟨i, _, hi, hz, hs, hb, rfl⟩⟩
end Go.Proofs.Ytnpdoejjebgcpaa
namespace Go.Proofs.Ytnpdoejjebgcpaa
open Go Go.RowKit
theorem Sl.of_blk {α : Type} {F : Nat → Prop} {R : World → List Value → α → Prop} {w : World} {b : Nat} {t : TypeId} (l : List α) (cs : List Value) (h : Blk w b t cs.toArray) (hl : cs.length = l.length) (hm : l.length ≤ 1000) (hR : ∀ i (hi : i < l.length), R w [cs[i]'(by omega)] l[i]) (hF : F b) :
    Sl F 1 R w (.slice (some ⟨b, 0, none⟩) l.length l.length) l := by
  refine ⟨_, _, rfl, Nat.le_refl _, by omega, fun i hi => ⟨_, [cs[i]'(by omega)], rfl, hF, rfl, hR i hi, fun j u hu => ?_⟩⟩
  cases j with
  | zero =>
    simp at hu
    subst hu
    have := h.cell i
    have h2 : cs.toArray[i]? = some (cs[i]'(by omega)) := by simp [show i < cs.length by omega]
    rw [h2] at this
    have e : (((⟨b, 0, none⟩ : Addr).add (i * 1)).add 0) = ⟨b, i, none⟩ := by
      rw [add_of_add, Nat.mul_one, Nat.add_zero]
      unfold Addr.add
      by_cases h0 : i = 0 <;> simp [h0]
    rw [e]
    exact this
  | succ j => simp at hu
theorem PT.slt {pb : Nat} {vs : Value} {size : Int} {w : World} {v : Value} {t : List Hit.TNode} (h : PT pb vs size w v t) (hl : t.length ≤ 1000000) : SlT (fun b => pb < b ∧ b < w.heap.size) w v t := by
  refine (h.own.sl (F := fun b => pb < b ∧ b < w.heap.size) (by omega) fun b q1 q2 _ => ⟨by omega, q2⟩).monoR fun c x hc => ?_
  exact NodeC.keep hc (Agree.refl _ _) fun b q => ⟨q.1, q.2.1⟩
namespace Hit
theorem ex_sets : setsOf exWs = [[0, 1], [1, 2], [0, 2]] := by decide +kernel
theorem ex_good : Good exWs 3 := by
  unfold Good exWs
  decide
theorem ex_pop : pop (least exWs 3) = 2 := by decide +kernel
theorem ex_hit : hit exWs (word [0, 1, 2]) = true := by decide +kernel
theorem ex_red : members (reduce exWs (word [0, 1, 2]) [0, 1, 2]) = [1, 2] := by decide +kernel
theorem ex_cnt : cntTo exWs (2 ^ 3) = 4 := by decide +kernel
theorem ex_both : bothF 3 (setsOf exWs) (ints [0, 1, 2]) = 0 := by decide +kernel
theorem ex_tl : (nodeF exWs 2 4 0 0 0).length ≤ 1000 ∧ ∀ x ∈ nodeF exWs 2 4 0 0 0, x.weights.length ≤ 1000000 := by decide +kernel
end Hit
theorem lit2 {w : World} {x y : Int} : SlI (fun b => b < (w.alloc (.cells #[.int .i64 x, .int .i64 y] 3)).heap.size) (w.alloc (.cells #[.int .i64 x, .int .i64 y] 3)) (.slice (some ⟨w.heap.size, 0, none⟩) 2 2) [x, y] :=
  Sl.of_blk [x, y] [.int .i64 x, .int .i64 y] (Blk.new w 3 #[.int .i64 x, .int .i64 y]) rfl (by simp) (fun i hi => by
    match i, hi with
    | 0, _ => rfl
    | 1, _ => rfl) (by simp)
theorem lit3 {w : World} {x y z : Int} : SlI (fun b => b < (w.alloc (.cells #[.int .i64 x, .int .i64 y, .int .i64 z] 3)).heap.size) (w.alloc (.cells #[.int .i64 x, .int .i64 y, .int .i64 z] 3)) (.slice (some ⟨w.heap.size, 0, none⟩) 3 3) [x, y, z] :=
  Sl.of_blk [x, y, z] [.int .i64 x, .int .i64 y, .int .i64 z] (Blk.new w 3 #[.int .i64 x, .int .i64 y, .int .i64 z]) rfl (by simp) (fun i hi => by
    match i, hi with
    | 0, _ => rfl
    | 1, _ => rfl
    | 2, _ => rfl) (by simp)
theorem SlI.on {w w' : World} {v : Value} {l : List Int} (h : SlI (fun b => b < w.heap.size) w v l) (hb : Below w.heap.size w w') : SlI (fun b => b < w'.heap.size) w' v l :=
  (h.keep (Agree.below hb fun _ h => h)).mono fun _ h => Nat.lt_of_lt_of_le h hb.size
theorem SlT.on {w w' : World} {v : Value} {l : List Hit.TNode} (h : SlT (fun b => b < w.heap.size) w v l) (hb : Below w.heap.size w w') : SlT (fun b => b < w'.heap.size) w' v l :=
  (Sl.mono (h.keep (Agree.below hb fun _ h => h)) fun _ h => Nat.lt_of_lt_of_le h hb.size).monoR fun _ _ hc => NodeC.keep hc (Agree.refl _ _) fun _ h => Nat.lt_of_lt_of_le h hb.size
end Go.Proofs.Ytnpdoejjebgcpaa
namespace Go.Proofs.Ytnpdoejjebgcpaa
open Go Go.RowKit
theorem bothF_plan {n : Nat} (hn : n ≤ 20) (sets : List Nat) (l : List Int) : bothF n (setsOf (Hit.planW n sets)) l = Hit.listF n l := by
  have : Hit.checkF n (setsOf (Hit.planW n sets)) = 0 := Hit.checkF_of hn (by have := Hit.planW_len n sets; omega) (Hit.planW_good n sets)
  unfold bothF
  rw [if_neg (by rw [this]; simp)]
theorem red_sub {n : Nat} (_hn : n ≤ 32) (ws : List Nat) (ns : List Nat) (h : ∀ x ∈ ns, x < n) : ∀ x ∈ Hit.members (Hit.reduce ws (Hit.word ns) ns), x < n :=
  Hit.members_lt (Hit.sub_lt (Hit.reduce_sub ws ns _) (Hit.word_lt h))
theorem red_list {n : Nat} (hn : n ≤ 32) (ws : List Nat) (ns : List Nat) (h : ∀ x ∈ ns, x < n) : Hit.listF n (Hit.ints (Hit.members (Hit.reduce ws (Hit.word ns) ns))) = 0 :=
  Hit.listF_of (Hit.inc_members _) (red_sub hn ws ns h)
theorem red_word {n : Nat} (hn : n ≤ 32) (ws : List Nat) (ns : List Nat) (h : ∀ x ∈ ns, x < n) : Hit.word (Hit.members (Hit.reduce ws (Hit.word ns) ns)) = Hit.reduce ws (Hit.word ns) ns :=
  Hit.word_members (Nat.lt_of_lt_of_le (Hit.sub_lt (Hit.reduce_sub ws ns _) (Hit.word_lt h)) (Nat.pow_le_pow_right (by decide) (by omega)))
theorem red_len (x : Nat) : (Hit.members x).length ≤ 1000000000 := Nat.le_trans (List.length_filter_le _ _) (by simp)
theorem missF_cases (ws : List Nat) (x : Nat) : (Hit.hit ws x = true ∧ missF ws x = -1) ∨ (Hit.hit ws x = false ∧ 0 ≤ missF ws x) := by
  cases h : Hit.hit ws x with
  | true =>
    refine .inl ⟨rfl, ?_⟩
    rw [missF_eq, if_pos ((Hit.miss_hit ws x).2 h)]
  | false =>
    refine .inr ⟨rfl, ?_⟩
    have := missF_neg ws x
    rw [h] at this
    have : ¬ missF ws x < 0 := fun q => by have := this.1 q; cases this
    omega
end Go.Proofs.Ytnpdoejjebgcpaa
