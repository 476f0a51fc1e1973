/- Words for laid variables: a listed table's cells; the row of a law with listed variables, out of its walk. -/
import Derived.Test.YtiochodepgldpaaDoorOpen
import Derived.LaidMore
import Derived.Stop.Joined
import Derived.Shelf.Spec.TrailingZeros
namespace Go.Proofs.YtiochodepgldpaaDoor
open Go Go.RowKit
section
variable {P : Program} {W : World}
theorem laid_mem : ∀ {L : List (String × DataW Unit)} {ps : List MemPlace} {n : String} {d : DataW Unit}, DataW.LaidVars P W L ps → (n, d) ∈ L →
    ∃ g t cs f q, P.globalNamed n = some g ∧ (P.globals[g]?).map (·.type) = some t ∧ W.var? P n = some cs ∧ DataW.trod (fun _ => ()) P W 0 (fun _ => true) false f t cs.toList = some (d, q)
  | [], _, _, _, _, hm => by cases hm
  | (n0, d0) :: r, ps, n, d, h, hm => by
    obtain ⟨g0, t0, cs0, f0, p0, q0, hg0, ht0, hv0, hd0, hrest, _⟩ := h
    rcases List.mem_cons.1 hm with e | hm
    · injection e with e1 e2
      subst e1; subst e2
      exact ⟨g0, t0, cs0, f0, p0, hg0, ht0, hv0, hd0⟩
    · exact laid_mem hrest hm
/-- A table of integers: its cells. -/
theorem table_cells {H : Type} {enc : TypeId × Value → H} {T te : TypeId} {len f : Nat} {k : IntKind} {cs : List Value} {vals : List Int} {q : List MemPlace} {sp : Nat → Bool} {hd : Bool} (ht : P.underlying T = some (.array len te)) (hte : P.underlying te = some (.int k)) (hc : P.cellsOf te = 1)
    (h : DataW.trod enc P W 0 sp hd f T cs = some (.agg (vals.map fun x => .lit (.int k x)), q)) : ∀ (j : Nat) (hj : j < vals.length), cs[j]? = some (.int k vals[j]) := by
  obtain ⟨xs, m, _, hx, hl, hxl, hf⟩ := DataW.trod_array ht h
  intro j hj
  simp only [Prod.mk.injEq, DataW.agg.injEq] at hx
  have hlen : vals.length = xs.length := by
    have := congrArg List.length hx.1
    simpa using this
  have h1 := hf j (by omega)
  rw [List.getElem?_eq_getElem (by omega), hc] at h1
  obtain ⟨y, e1, e2, _⟩ := DataW.trod_int hte h1
  have e3 := congrArg (fun l => l[j]?) hx.1
  simp only [List.getElem?_map, List.getElem?_eq_getElem hj, List.getElem?_eq_getElem (show j < xs.length by omega), Option.map_some, Option.some.injEq] at e3
  rw [e2] at e3
  simp only [DataW.lit.injEq, Lit.int.injEq, true_and] at e3
  rw [e3]
  have e4 := congrArg (fun l => l[0]?) e1
  simpa using e4
theorem tab_of_laid {L : List (String × DataW Unit)} {n : String} {tab : List Nat} {g T te len : Nat} (h : laidMet P L W) (hm : (n, .agg (tab.map fun x => .lit (.int .u8 (x : Nat)))) ∈ L) (hg : P.globalNamed n = some g) (hT : (P.globals[g]?).map (·.type) = some T)
    (ht : P.underlying T = some (.array len te)) (hte : P.underlying te = some (.int .u8)) (hc : P.cellsOf te = 1) : TabAt g tab W := by
  obtain ⟨ps, hps, _⟩ := h
  obtain ⟨g', t', cs, f, q, hg', ht', hv, hd⟩ := laid_mem hps hm
  obtain rfl := Option.some.inj (hg.symm.trans hg')
  obtain rfl := Option.some.inj (hT.symm.trans ht')
  intro j hj
  have e : (tab.map fun x => (DataW.lit (.int .u8 (x : Nat)) : DataW Unit)) = (tab.map fun x : Nat => (x : Int)).map fun x => .lit (.int .u8 x) := by simp
  rw [e] at hd
  have h1 := table_cells ht hte hc hd j (by simpa using hj)
  have h2 := World.var?_cell hg hv j
  rw [h2, ← Array.getElem?_toList, h1]
  simp [hj]
end
/-- The row of a law with listed variables: true, whatever the input. -/
theorem law_lifted_laid {H : Type} {enc : TypeId × Value → H} {C : Checked} {os : Os} {f : FuncId} {fn : Func} {s : ChangeSpec} {conds : List PathCond} {apart fresh handsOn again : Bool} {tb : TypeId} {L : List (String × DataW Unit)} {a : Assume}
    (own : ownKnob C.prog.godebug = none) (started : os.Started) (noInit : C.prog.inits.idxOf? f = none) (hfn : C.prog.funcs[f]? = some fn)
    (witness : ∃ (w : World) (tape : Tape) (i : Input), w.os = os ∧ (w.forCall tape i).Shaped C.prog ∧ i.vars = [] ∧ Input.okWide C.prog (w.forCall tape i) .any w.heap.size f i ∧
      ((s.pre enc C.prog fn conds apart (w.forCall tape i).memory i.args ∧ laidMetH C.prog L (w.forCall tape i).memory) ∧ sizedMet enc C.prog fn (OpenSpec.ofChange s) apart (w.forCall tape i).memory i.args) ∧ a.holds C.prog (lone (Frame.enter C.prog f i.args .normal) [] (w.forCall tape i)))
    (hsv : s.vars = []) (hres : fn.resultTypes = #[tb]) (htb : C.prog.underlying tb = some .bool) (hlaid : laidOutB C.prog = true) (hrd : ∀ t ∈ fn.params.toList, C.prog.readableRec t = true ∧ t < C.prog.types.size)
    (hspec : ∀ ds : List (DataW H), ds.length = fn.params.size → s.fn H ds = { results := [.lit (.bool true)], args := ds })
    (walk : ∀ (W : World) (base : Nat) (args : Array Value) (ds : List (DataW H)) (p : List MemPlace), laidMetH C.prog L W →
      (∀ (j : Nat) t v, fn.params[j]? = some t → args[j]? = some v → Value.okWide C.prog W .any base t v) →
      DataW.TrodAll enc C.prog W 0 (fun _ => true) true fn.params.toList args.toList ds p →
      (∀ (j : Nat) t d, fn.params.toList[j]? = some t → ds[j]? = some d → ∀ m ∈ d.weights C.prog t, m ≤ reachBytes) →
      Calls C.prog f args W fun e W' => e = .returned (.bool true) ∧ Below W.heap.size W W') :
    ReturnsInHanded a C os f .any (fun w args => (s.pre enc C.prog fn conds apart w args ∧ laidMetH C.prog L w) ∧ sizedMet enc C.prog fn (OpenSpec.ofChange s) apart w args) (s.post enc C.prog fn apart fresh handsOn again) := by
  refine returnsInHanded_of_change_and (C := C) (X := fun w _ => laidMetH C.prog L w) (fun _ _ _ hh h => h.of_heap hh) own started noInit hfn witness ?_
  intro W base args ds gs before hval hW _ hsz hL _
  obtain ⟨p, q, hA, hV, rfl, hfz, hnd⟩ := id hW
  rw [hsv] at hV
  obtain ⟨rfl, rfl⟩ := ChangeShapes.trodVars_none hV
  have hlen := trodAll_length hA
  have hds : ds.length = fn.params.size := by simpa using hlen.2
  refine (walk W base args ds p hL hval hA fun j t d h1 h2 m hm => ?_).mono fun e W' ⟨he, hb⟩ => ⟨.bool true, he, ?_⟩
  · have hj : j < fn.params.toList.length := (List.getElem?_eq_some_iff.1 h1).1
    have := List.all_eq_true.1 hsz m (DataW.weights_mem_each (j := j) (by rw [List.getElem?_append_left hj]; exact h1) (by rw [List.getElem?_append_left (by simp at hj; omega)]; exact h2) m hm)
    simpa using this
  · have hlt : ∀ x ∈ p, x.block < W.heap.size := fun x hx => hW.lt x (by simp [hx])
    have e1 : s.fn H (ds ++ []) = { results := [.lit (.bool true)], args := ds } := by rw [List.append_nil]; exact hspec ds hds
    refine post_of_below (pa := p) (pv := []) hW (fun b sp hd => ?_) (fun sp hsp => ?_) (fun sp _ => ?_) rfl hb (ok_one hres rfl (okWide_bool_mk htb true))
    · rw [e1, hres]
      exact ChangeShapes.trodAll_mk1 (shut_bool htb true)
    · rw [e1]
      exact trodAll_after hlaid hb hrd hA hlt sp (fun x hx => hsp x (by simp [hx]))
    · rw [e1, hsv]
      rfl
end Go.Proofs.YtiochodepgldpaaDoor
