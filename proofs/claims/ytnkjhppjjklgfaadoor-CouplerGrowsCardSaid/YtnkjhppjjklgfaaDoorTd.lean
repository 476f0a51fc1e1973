/- Walks over coupler's statements: All and Sounding at keys that are right; Count of no notes; regions by classes of worlds. -/
import Derived.Test.YtnkjhppjjklgfaaDoorTc
namespace Go.Proofs.YtnkjhppjjklgfaaDoor
open Go Go.RowKit Go.Shelf
theorem wp_region_class_lit {P : Program} {C : World → Prop} {id : Nat} {Q : Exit → Act → World → Prop} {a : Act} {w : World} {l : List Oper} (hm : P.follows .mixedOrders = true) (hB : Region.lexB .any l.toArray = true) (hC : C { w with drawn := w.drawn + 1 })
    (h : wpQuiet P l.toArray C (fun a' => ∀ w', C w' → Q .normal a' w') l a) : (Code.region id l.toArray true).wp P Q a w :=
  wp_region_quiet (C := C) hm hB hC (by simpa using h)
/-- The worlds that leave all that was in w1. -/
def Cls (w1 : World) : Type := { x : World // Below w1.heap.size w1 x }
def Cls.w {w1 : World} (q : Cls w1) : World := q.1
theorem Cls.b {w1 : World} (q : Cls w1) : Below w1.heap.size w1 q.w := q.2
def Cls.mk' {w1 w : World} (h : Below w1.heap.size w1 w) : Cls w1 := ⟨w, h⟩
instance (w1 : World) : Nonempty (Cls w1) := ⟨⟨w1, Below.refl _ _⟩⟩
/-- A call as one step of a region that draws its order. -/
theorem step_call {P : Program} {ops : Array Oper} {o : Oper} {a : Act} {w : World} {K : Act → World → Prop} {Q : Exit → Act → World → Prop} {E : Prop} (hgd : o.guard = none) (g : Nat) (args : Array Operand) (tys : Array TypeId)
    (ho : o.op = .call { callee := .value (.func g), args := args, argTypes := tys }) (eg : ∀ vs w, (callFunc g vs).run P w = .ok (.enter g vs) w) (vals : Array Value) (hv : args.map a.eval = vals) {Post : Ending → World → Prop} (hc : Calls P g vals w Post)
    (h : ∀ e w', Post e w' → ∃ v, e = .returned v ∧ K (a.put o.dst v) w') : if Region.wanted o (yielded ops a.tmps) = true then Oper.wp P o a w K Q else E := by
  rw [if_pos (by simp [Region.wanted, hgd])]
  have hrun : (execOp a.eval o).run P w = .ok (.enter g vals) w := by
    unfold execOp
    simp only [ho, resolve, Sem.run_bind]
    simp [Deferred.ofValue, Act.eval, invoke, hv, eg, Result.andThen]
  unfold Oper.wp
  rw [hrun]
  refine hc.mono ?_
  rintro e w' hp
  obtain ⟨v, rfl, hk⟩ := h e w' hp
  exact hk
theorem step_call1 {P : Program} {ops : Array Oper} {o : Oper} {a : Act} {w : World} {K : Act → World → Prop} {Q : Exit → Act → World → Prop} {E : Prop} (hgd : o.guard = none) (g : Nat) (x1 : Operand) (tys : Array TypeId)
    (ho : o.op = .call { callee := .value (.func g), args := #[x1], argTypes := tys }) (eg : ∀ vs w, (callFunc g vs).run P w = .ok (.enter g vs) w) (v1 : Value) (h1 : a.eval x1 = v1) {Post : Ending → World → Prop} (hc : Calls P g #[v1] w Post)
    (h : ∀ e w', Post e w' → ∃ v, e = .returned v ∧ K (a.put o.dst v) w') : if Region.wanted o (yielded ops a.tmps) = true then Oper.wp P o a w K Q else E :=
  step_call hgd g #[x1] tys ho eg #[v1] (by simp [h1]) hc h
theorem step_call2 {P : Program} {ops : Array Oper} {o : Oper} {a : Act} {w : World} {K : Act → World → Prop} {Q : Exit → Act → World → Prop} {E : Prop} (hgd : o.guard = none) (g : Nat) (x1 x2 : Operand) (tys : Array TypeId)
    (ho : o.op = .call { callee := .value (.func g), args := #[x1, x2], argTypes := tys }) (eg : ∀ vs w, (callFunc g vs).run P w = .ok (.enter g vs) w) (v1 v2 : Value) (h1 : a.eval x1 = v1) (h2 : a.eval x2 = v2) {Post : Ending → World → Prop} (hc : Calls P g #[v1, v2] w Post)
    (h : ∀ e w', Post e w' → ∃ v, e = .returned v ∧ K (a.put o.dst v) w') : if Region.wanted o (yielded ops a.tmps) = true then Oper.wp P o a w K Q else E :=
  step_call hgd g #[x1, x2] tys ho eg #[v1, v2] (by simp [h1, h2]) hc h
/-- Made keys that say P. -/
def MadeK (n : Nat) (P : Nat → Nat → Prop) (kb : Nat) (M : List Nat) (w : World) : Prop := Blk w kb 70 (ntCs M).toArray ∧ M.length = n ∧ (∀ x ∈ M, x < 2 ^ 128) ∧ ∀ d i, d < n → ((M.getD d 0).testBit i = true ↔ P d i)
theorem MadeK.below {n : Nat} {P : Nat → Nat → Prop} {kb : Nat} {M : List Nat} {w w' : World} (h : MadeK n P kb M w) (hb : Below w.heap.size w w') : MadeK n P kb M w' := ⟨h.1.below hb h.1.lt, h.2⟩
theorem MadeK.cells {n : Nat} {P : Nat → Nat → Prop} {kb : Nat} {M : List Nat} {w : World} (h : MadeK n P kb M w) {k : Nat} (hk : k < n) : ∃ x, x < 2 ^ 128 ∧ (∀ i, x.testBit i = true ↔ P k i) ∧ ∀ W, Below w.heap.size w W → W.cell? ⟨kb, k * 2, none⟩ = some (.int .u64 ((Nt.lo x : Nat) : Int)) ∧ W.cell? ⟨kb, k * 2 + 1, none⟩ = some (.int .u64 ((Nt.hi x : Nat) : Int)) := by
  obtain ⟨h1, h2, h3, h4⟩ := h
  have hkM : k < M.length := by omega
  obtain ⟨y0, y1⟩ := ntCs_get hkM
  refine ⟨M[k], h3 _ (List.getElem_mem hkM), fun i => ?_, fun W hb => ⟨?_, ?_⟩⟩
  · rw [← h4 k i hk, List.getD_eq_getElem?_getD, List.getElem?_eq_getElem hkM]
    rfl
  · exact ((h1.below hb h1.lt).cell (k * 2)).trans (List.getElem?_toArray.trans y0)
  · exact ((h1.below hb h1.lt).cell (k * 2 + 1)).trans (List.getElem?_toArray.trans y1)
theorem All_ok (a : Cou.Ac) (vd vc pv : Value) (hdr : a.drawn < 2 ^ 64) (ks : List Nat) (hks : ∀ x ∈ ks, x < 2 ^ 128) (he : Cou.allErr a ks = 0) (w : World) (F G : Nat → Prop) (hA : AcAt F w vd vc a) (hG : ∀ b, G b → b < w.heap.size) (hP : SlK G w pv ks) (hT : Tab64 w) (hg : 0 < w.heap.size) :
    Calls Tryd.prog 27 #[.agg #[vd, vc, .int .u64 a.drawn], pv] w fun e w' => ∃ kb M, e = .returned (.tuple #[.slice (some ⟨kb, 0, none⟩) a.divs.length a.divs.length, .int .i64 0]) ∧ MadeK a.divs.length (fun d i => Cou.Hop a (Cou.allL 0 ks) ((d : Int), (i : Int))) kb M w' ∧ Below w.heap.size w w' := by
  have h := All_any a vd vc pv hdr ks hks w F G hA hG hP hT hg
  rw [he] at h
  refine h.mono ?_
  rintro e w' ⟨v, rfl, hs, hb⟩
  obtain ⟨kb, M, rfl, _, h1, h2, h3, h4⟩ := hs.2 he
  exact ⟨kb, M, rfl, ⟨h1, h2, h3, h4⟩, hb⟩
theorem Snd_ok (a : Cou.Ac) (vd vc pv : Value) (hdr : a.drawn < 2 ^ 64) (ks : List Nat) (hks : ∀ x ∈ ks, x < 2 ^ 128) (he : Cou.allErr a ks = 0) (off : Nat) (hoff : off < 2 ^ 64) (h0 : off >>> a.divs.length = 0) (w : World) (F G : Nat → Prop) (hA : AcAt F w vd vc a) (hG : ∀ b, G b → b < w.heap.size) (hP : SlK G w pv ks) (hT : Tab64 w) (hg : 0 < w.heap.size) :
    Calls Tryd.prog 24 #[.agg #[vd, vc, .int .u64 a.drawn], pv, .int .u64 off] w fun e w' => ∃ kb M, e = .returned (.tuple #[.slice (some ⟨kb, 0, none⟩) a.divs.length a.divs.length, .int .i64 0]) ∧ MadeK a.divs.length (Cou.Snd a ks off) kb M w' ∧ Below w.heap.size w w' := by
  have hse : Cou.soundErr a ks off = 0 := by unfold Cou.soundErr; rw [if_pos he, if_pos h0]
  have h := Sounding_any a vd vc pv hdr ks hks off hoff w F G hA hG hP hT hg
  rw [hse] at h
  refine h.mono ?_
  rintro e w' ⟨v, rfl, hs, hb⟩
  obtain ⟨kb, M, rfl, _, h1, h2, h3, h4⟩ := hs.2 hse
  exact ⟨kb, M, rfl, ⟨h1, h2, h3, h4⟩, hb⟩
set_option maxRecDepth 100000 in
theorem ones_zero (w : World) : Calls Tryd.prog 54 #[.int .u64 0] w fun e w' => e = .returned (.int .i64 0) ∧ Below w.heap.size w w' := by
  have a1 : bits .and .u64 0 6148914691236517205 = 0 := by rfl
  have a2 : bits .and .u64 0 3689348814741910323 = 0 := by rfl
  have a3 : bits .and .u64 0 1085102592571150095 = 0 := by rfl
  have a4 : bits .and .i64 0 127 = 0 := by rfl
  go_enter Tryd.func54, Tryd.ntmps54
  go_wp2_with fail
  go_ret
  exact ⟨rfl, B0 w⟩
set_option maxRecDepth 100000 in
theorem count_zero (w : World) : Calls Tryd.prog 32 #[.agg #[.int .u64 0, .int .u64 0]] w fun e w' => e = .returned (.int .i64 0) ∧ Below w.heap.size w w' := by
  obtain ⟨w1, hw1⟩ : ∃ w1 : World, w.alloc (.cells #[.int .u64 0, .int .u64 0] 70) = w1 := ⟨_, rfl⟩
  obtain ⟨b, hb⟩ : ∃ b, w.heap.size = b := ⟨_, rfl⟩
  have C1 : Blk w1 b 70 #[.int .u64 0, .int .u64 0] := by rw [← hw1, ← hb]; exact Blk.new _ _ _
  have B1 : Below w.heap.size w w1 := by rw [← hw1]; exact Ba (B0 w) _
  have c0 := C1.cell 0
  have c1 := C1.cell 1
  simp only [List.getElem?_toArray, List.getElem?_cons_zero, List.getElem?_cons_succ] at c0 c1
  have HC := Lib.hid C1
  have HB := Lib.hid B1
  have HW1 := Lib.hid hw1
  have HBB := Lib.hid hb
  clear C1 B1 hw1 hb
  go_enter Tryd.func32, Tryd.ntmps32
  go_upto_region 1 with fail
  rw [HW1.out, HBB.out]
  have k0 : ∀ q : Cls w1, q.w.cell? ⟨b, 0, none⟩ = some (.int .u64 0) := fun q => (Bc q.b HC.out.lt).trans c0
  have k1 : ∀ q : Cls w1, q.w.cell? ⟨b, 1, none⟩ = some (.int .u64 0) := fun q => (Bc q.b HC.out.lt).trans c1
  have HCL := Lib.hid (fun q : Cls w1 => (show Calls Tryd.prog 54 #[.int .u64 0] q.w fun e w' => e = .returned (.int .i64 0) ∧ ∃ r : Cls w1, w' = r.w from (ones_zero q.w).mono fun e w' ⟨q1, q2⟩ => ⟨q1, Cls.mk' (Bt q.b q2), rfl⟩))
  clear c0 c1
  refine wp_region_class_lit (C := fun w' => ∃ q : Cls w1, w' = q.w) (by kernel_rfl) (by kernel_rfl) ⟨Cls.mk' (B0 w1).drew, rfl⟩ ?_
  repeat (any_goals (first | go_big_quiet_step ((go_at_call 54; with_reducible exact HCL.out _)) | quiet_step ((go_at_call 54; with_reducible exact HCL.out _))))
  refine wpQuiet_nil ?_
  rintro _ ⟨q, rfl⟩
  have B2 := Lib.hid (Bt HB.out q.b)
  clear k0 k1
  generalize q.w = w5 at *
  go_wp2_with fail
  go_ret
  exact ⟨rfl, B2.out⟩
end Go.Proofs.YtnkjhppjjklgfaaDoor
