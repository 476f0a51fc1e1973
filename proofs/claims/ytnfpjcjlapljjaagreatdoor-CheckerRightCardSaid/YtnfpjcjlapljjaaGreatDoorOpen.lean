/- Words for arguments: what an argument's reading gives, by its type; and the row of a law, out of its walk. Words for laid variables: a listed table's cells; the row of a law with listed variables, out of its walk. -/
import Derived.Test.YtnfpjcjlapljjaaGreatDoorBase
import Derived.ProofKit
import Derived.ChangeCalls
import Derived.SizedLaws
import Derived.OpenShut
import Derived.Deep.Slices
import Derived.LaidMore
import Derived.Stop.Joined
import Derived.Shelf.Spec.TrailingZeros
namespace Go.Proofs.YtnfpjcjlapljjaaGreatDoor
open Go Go.RowKit

section
variable {H : Type} (enc : TypeId × Value → H) (P : Program) (w : World)
/-- Cells that are read at type t are k, and read as R says. -/
def Opens {α : Type} (t : TypeId) (k : Nat) (R : World → List Value → α → Prop) : Prop :=
  ∀ n cs x, DataW.trod enc P w 0 (fun _ => true) true n t cs = some x → (∀ m ∈ x.1.weights P t, m ≤ reachBytes) → cs.length = k ∧ ∃ y, R w cs y
variable {enc P w}
theorem Opens.mono {α : Type} {t : TypeId} {k : Nat} {R R' : World → List Value → α → Prop} (h : Opens enc P w t k R) (hR : ∀ cs y, R w cs y → R' w cs y) : Opens enc P w t k R' :=
  fun n cs x h1 h2 => by
    obtain ⟨q, y, hy⟩ := h n cs x h1 h2
    exact ⟨q, y, hR _ _ hy⟩
/-- A cell that is an integer of kind k. -/
def KindC (k : IntKind) (_ : World) (cs : List Value) (x : Int) : Prop := cs = [.int k x] ∧ (Lit.int k x).wf = true
theorem opens_int {t : TypeId} {k : IntKind} (ht : P.underlying t = some (.int k)) : Opens enc P w t 1 (KindC k) := fun n cs x h1 _ => by
  obtain ⟨m, rfl, _, hm⟩ := DataW.trod_int ht h1
  exact ⟨rfl, m, rfl, hm⟩
def FlagC (_ : World) (cs : List Value) (x : Bool) : Prop := cs = [.bool x]
theorem opens_bool {t : TypeId} (ht : P.underlying t = some .bool) : Opens enc P w t 1 FlagC := fun n cs x h1 _ => by
  obtain ⟨m, rfl, _⟩ := DataW.trod_bool ht h1
  exact ⟨rfl, m, rfl⟩
def AnySl {α : Type} (k : Nat) (R : World → List Value → α → Prop) (w : World) (cs : List Value) (l : List α) : Prop := ∃ v, cs = [v] ∧ Sl (fun b => b < w.heap.size) k R w v l
theorem weights_all {e : TypeId} : ∀ (l : List (DataW H)) (i : Nat) (d : DataW H), l[i]? = some d → ∀ m ∈ d.weights P e, m ∈ DataW.weightsAll P e l
  | d0 :: r, 0, d, h, m, hm => by
    simp only [List.getElem?_cons_zero, Option.some.injEq] at h
    subst h
    simp only [DataW.weightsAll, List.mem_append]
    exact .inl hm
  | d0 :: r, i + 1, d, h, m, hm => by
    simp only [List.getElem?_cons_succ] at h
    simp only [DataW.weightsAll, List.mem_append]
    exact .inr (weights_all r i d h m hm)
  | [], _, _, h, _, _ => by simp at h
theorem opens_slice {α : Type} {t e : TypeId} {k : Nat} {R : World → List Value → α → Prop} (ht : P.underlying t = some (.slice e)) (hk : P.cellsOf e = k) (hb : 0 < P.bytesOf e) (hk0 : 0 < k) (ho : Opens enc P w e k R) : Opens enc P w t 1 (AnySl k R) := fun n cs x h1 h2 => by
  rcases DataW.trod_slice ht h1 with ⟨rfl, _⟩ | ⟨a, len, cap, elems, rest, m, _, rfl, rfl, _, hlc, _, hlen, hel, hsp, _⟩
  · exact ⟨rfl, [], _, rfl, Sl.nil_⟩
  · obtain ⟨hrl, _⟩ := hsp rfl
    have hbnd := h2 ((elems.length + rest.length) * P.bytesOf e) (by simp [DataW.weights, ht])
    have hcap : cap ≤ reachBytes := by
      rw [hlen, hrl] at hbnd
      have : cap ≤ (len + (cap - len)) * P.bytesOf e := Nat.le_trans (by omega) (Nat.le_mul_of_pos_right _ hb)
      omega
    have hea : ∀ i, i < len → ∃ y : α, ∃ cs, a.block < w.heap.size ∧ cs.length = k ∧ R w cs y ∧ Flds w (a.add (i * k)) cs := by
      intro i hi
      have := hel i hi
      rw [List.getElem?_eq_getElem (by omega)] at this
      obtain ⟨cs', q1, q2⟩ := Option.bind_eq_some_iff.1 this
      obtain ⟨r1, y, r2⟩ := ho m cs' _ q2 (fun x hx => h2 x (by
        simp only [DataW.weights, ht, List.mem_cons, List.mem_append]
        exact .inr (.inl (weights_all (elems.map (·.1)) i _ (by rw [List.getElem?_map, List.getElem?_eq_getElem (by omega)]; rfl) x hx))))
      obtain ⟨_, c1, c2⟩ := World.cells?_some q1
      have hf : Flds w (a.add (i * k)) cs' := fun j u hu => by
        have hj : j < cs'.length := (List.getElem?_eq_some_iff.1 hu).1
        rw [hk] at c1 c2
        have := c2 j (by omega)
        rw [hu] at this
        exact this
      refine ⟨y, cs', ?_, r1, r2, hf⟩
      have := World.block_lt_of_cell? _ _ (hf 0 (cs'[0]'(by omega)) (List.getElem?_eq_getElem _))
      rwa [block_of_add, block_of_add] at this
    refine ⟨rfl, List.ofFn fun i : Fin len => Classical.choose (hea i.1 i.2), _, rfl, some a, cap, ?_, ?_, ?_, ?_⟩
    · simp
    · simpa using hlc
    · simp only [List.length_ofFn]; unfold reachBytes at hcap; omega
    · intro i hi
      simp only [List.length_ofFn] at hi
      obtain ⟨cs, q1, q2, q3, q4⟩ := Classical.choose_spec (hea i hi)
      refine ⟨a, cs, rfl, q1, q2, ?_, q4⟩
      simpa using q3
theorem opens_struct {t : TypeId} {fs : Array Field} (ht : P.underlying t = some (.struct fs)) {n : Nat} {cs : List Value} {x : DataW H × List MemPlace} (h1 : DataW.trod enc P w 0 (fun _ => true) true n t cs = some x) (h2 : ∀ m ∈ x.1.weights P t, m ≤ reachBytes) :
    cs.length = P.cellsOf t ∧ ∀ (i : Nat) (f : Field) (k : Nat) {α : Type} (R : World → List Value → α → Prop), fs[i]? = some f → Opens enc P w f.type k R → ∃ y, R w ((cs.drop f.offset).take (P.cellsOf f.type)) y := by
  obtain ⟨xs, m, _, rfl, hl, hxl, hf⟩ := DataW.trod_struct ht h1
  refine ⟨hl, fun i f k α R hi ho => ?_⟩
  have hlt : i < fs.size := (Array.getElem?_eq_some_iff.1 hi).1
  have h := hf i f hi
  rw [List.getElem?_eq_getElem (by omega)] at h
  obtain ⟨_, y, hy⟩ := ho m _ _ h (fun z hz => h2 z (by
    simp only [DataW.weights, ht]
    exact DataW.weights_mem_each (j := i) (by rw [List.getElem?_map, Array.getElem?_toList, hi]; rfl) (by rw [List.getElem?_map, List.getElem?_eq_getElem (by omega)]; rfl) z hz))
  exact ⟨y, hy⟩
theorem opens_array {α : Type} {t e : TypeId} {len k : Nat} {R : World → List Value → α → Prop} (ht : P.underlying t = some (.array len e)) (hk : P.cellsOf e = k) (ho : Opens enc P w e k R) :
    Opens enc P w t (P.cellsOf t) (fun w cs (f : Nat → Option α) => ∀ i, i < len → ∃ y, f i = some y ∧ R w ((cs.drop (i * k)).take k) y) := fun n cs x h1 h2 => by
  obtain ⟨xs, m, _, rfl, hl, hxl, hf⟩ := DataW.trod_array ht h1
  refine ⟨hl, ?_⟩
  have hea : ∀ i, i < len → ∃ y : α, R w ((cs.drop (i * k)).take k) y := by
    intro i hi
    have h := hf i hi
    rw [List.getElem?_eq_getElem (by omega), hk] at h
    obtain ⟨_, y, hy⟩ := ho m _ _ h (fun z hz => h2 z (by
      simp only [DataW.weights, ht]
      exact weights_all (xs.map (·.1)) i _ (by rw [List.getElem?_map, List.getElem?_eq_getElem (by omega)]; rfl) z hz))
    exact ⟨y, hy⟩
  refine ⟨fun i => if h : i < len then some (Classical.choose (hea i h)) else none, fun i hi => ?_⟩
  exact ⟨_, by simp only [dif_pos hi], Classical.choose_spec (hea i hi)⟩
theorem opens_arg {α : Type} {t : TypeId} {k : Nat} {R : World → List Value → α → Prop} (ho : Opens enc P w t k R) {v : Value} {d : DataW H} {p : List MemPlace} (h : DataW.Trod enc P w 0 (fun _ => true) true t v d p) (hw : ∀ m ∈ d.weights P t, m ≤ reachBytes) :
    v.cells.size = k ∧ ∃ y, R w v.cells.toList y := by
  obtain ⟨n, h⟩ := h
  obtain ⟨h1, y, h2⟩ := ho n _ _ h hw
  exact ⟨by simpa using h1, y, h2⟩
theorem trodAll_after {W W' : World} (hl : laidOutB P = true) (hb : Below W.heap.size W W') : ∀ {ts : List TypeId} {vs : List Value} {ds : List (DataW H)} {ps : List MemPlace}, (∀ t ∈ ts, P.readableRec t = true ∧ t < P.types.size) →
    DataW.TrodAll enc P W 0 (fun _ => true) true ts vs ds ps → (∀ p ∈ ps, p.block < W.heap.size) → ∀ sp : Nat → Bool, (∀ p ∈ ps, sp p.block = true) → DataW.TrodAll enc P W' 0 sp true ts vs ds ps
  | [], [], [], _, _, h, _, _, _ => h
  | t :: ts, v :: vs, d :: ds, _, ht, ⟨p, q, h1, h2, e⟩, hlt, sp, hsp => by
    subst e
    exact ⟨p, q, WideElems.Trod_stays hl (ht t (by simp)).1 (ht t (by simp)).2 h1 (fun x hx => hb.same (hlt x (by simp [hx]))) (fun x hx => hsp x (by simp [hx])),
      trodAll_after hl hb (fun u hu => ht u (by simp [hu])) h2 (fun x hx => hlt x (by simp [hx])) sp (fun x hx => hsp x (by simp [hx])), rfl⟩
  | [], _ :: _, _, _, _, h, _, _, _ => h.elim
  | [], [], _ :: _, _, _, h, _, _, _ => h.elim
  | _ :: _, [], _, _, _, h, _, _, _ => h.elim
  | _ :: _, _ :: _, [], _, _, h, _, _, _ => h.elim
end
end Go.Proofs.YtnfpjcjlapljjaaGreatDoor
namespace Go.Proofs.YtnfpjcjlapljjaaGreatDoor
open Go Go.RowKit
section
variable {P : Program} {W : World}
theorem laid_mem : ∀ {L : List (String × DataW Unit)} {ps : List MemPlace} {n : String} {d : DataW Unit}, DataW.LaidVars P W L ps → (n, d) ∈ L →
    ∃ g t cs f q, P.globalNamed n = some g ∧ (P.globals[g]?).map (·.type) = some t ∧ W.var? P n = some cs ∧ DataW.trod (fun _ => ()) P W 0 (fun _ => true) false f t cs.toList = some (d, q)
  | [], _, _, _, _, hm => by cases hm
  | (n0, d0) :: r, ps, n, d, h, hm => by
    obtain ⟨g0, t0, cs0, f0, p0, q0, hg0, ht0, hv0, hd0, hrest, _⟩ := h
    rcases List.mem_cons.1 hm with e | hm
    · injection e with e1 e2
      subst e1; subst e2
      exact ⟨g0, t0, cs0, f0, p0, hg0, ht0, hv0, hd0⟩
    · exact laid_mem hrest hm
/-- A table of integers: its cells. -/
theorem table_cells {H : Type} {enc : TypeId × Value → H} {T te : TypeId} {len f : Nat} {k : IntKind} {cs : List Value} {vals : List Int} {q : List MemPlace} {sp : Nat → Bool} {hd : Bool} (ht : P.underlying T = some (.array len te)) (hte : P.underlying te = some (.int k)) (hc : P.cellsOf te = 1)
    (h : DataW.trod enc P W 0 sp hd f T cs = some (.agg (vals.map fun x => .lit (.int k x)), q)) : ∀ (j : Nat) (hj : j < vals.length), cs[j]? = some (.int k vals[j]) := by
  obtain ⟨xs, m, _, hx, hl, hxl, hf⟩ := DataW.trod_array ht h
  intro j hj
  simp only [Prod.mk.injEq, DataW.agg.injEq] at hx
  have hlen : vals.length = xs.length := by
    have := congrArg List.length hx.1
    simpa using this
  have h1 := hf j (by omega)
  rw [List.getElem?_eq_getElem (by omega), hc] at h1
  obtain ⟨y, e1, e2, _⟩ := DataW.trod_int hte h1
  have e3 := congrArg (fun l => l[j]?) hx.1
  simp only [List.getElem?_map, List.getElem?_eq_getElem hj, List.getElem?_eq_getElem (show j < xs.length by omega), Option.map_some, Option.some.injEq] at e3
  rw [e2] at e3
  simp only [DataW.lit.injEq, Lit.int.injEq, true_and] at e3
  rw [e3]
  have e4 := congrArg (fun l => l[0]?) e1
  simpa using e4
theorem tab_of_laid {L : List (String × DataW Unit)} {n : String} {tab : List Nat} {g T te len : Nat} (h : laidMet P L W) (hm : (n, .agg (tab.map fun x => .lit (.int .u8 (x : Nat)))) ∈ L) (hg : P.globalNamed n = some g) (hT : (P.globals[g]?).map (·.type) = some T)
    (ht : P.underlying T = some (.array len te)) (hte : P.underlying te = some (.int .u8)) (hc : P.cellsOf te = 1) : TabAt g tab W := by
  obtain ⟨ps, hps, _⟩ := h
  obtain ⟨g', t', cs, f, q, hg', ht', hv, hd⟩ := laid_mem hps hm
  obtain rfl := Option.some.inj (hg.symm.trans hg')
  obtain rfl := Option.some.inj (hT.symm.trans ht')
  intro j hj
  have e : (tab.map fun x => (DataW.lit (.int .u8 (x : Nat)) : DataW Unit)) = (tab.map fun x : Nat => (x : Int)).map fun x => .lit (.int .u8 x) := by simp
  rw [e] at hd
  have h1 := table_cells ht hte hc hd j (by simpa using hj)
  have h2 := World.var?_cell hg hv j
  rw [h2, ← Array.getElem?_toList, h1]
  simp [hj]
end
/-- The row of a law with listed variables: true, whatever the input. -/
theorem law_lifted_laid {H : Type} {enc : TypeId × Value → H} {C : Checked} {os : Os} {f : FuncId} {fn : Func} {s : ChangeSpec} {conds : List PathCond} {apart fresh handsOn again : Bool} {tb : TypeId} {L : List (String × DataW Unit)} {a : Assume}
    (own : ownKnob C.prog.godebug = none) (started : os.Started) (noInit : C.prog.inits.idxOf? f = none) (hfn : C.prog.funcs[f]? = some fn)
    (witness : ∃ (w : World) (tape : Tape) (i : Input), w.os = os ∧ (w.forCall tape i).Shaped C.prog ∧ i.vars = [] ∧ Input.okWide C.prog (w.forCall tape i) .any w.heap.size f i ∧
      ((s.pre enc C.prog fn conds apart (w.forCall tape i).memory i.args ∧ laidMetH C.prog L (w.forCall tape i).memory) ∧ sizedMet enc C.prog fn (OpenSpec.ofChange s) apart (w.forCall tape i).memory i.args) ∧ a.holds C.prog (lone (Frame.enter C.prog f i.args .normal) [] (w.forCall tape i)))
    (hsv : s.vars = []) (hres : fn.resultTypes = #[tb]) (htb : C.prog.underlying tb = some .bool) (hlaid : laidOutB C.prog = true) (hrd : ∀ t ∈ fn.params.toList, C.prog.readableRec t = true ∧ t < C.prog.types.size)
    (hspec : ∀ ds : List (DataW H), ds.length = fn.params.size → s.fn H ds = { results := [.lit (.bool true)], args := ds })
    (walk : ∀ (W : World) (base : Nat) (args : Array Value) (ds : List (DataW H)) (p : List MemPlace), laidMetH C.prog L W →
      (∀ (j : Nat) t v, fn.params[j]? = some t → args[j]? = some v → Value.okWide C.prog W .any base t v) →
      DataW.TrodAll enc C.prog W 0 (fun _ => true) true fn.params.toList args.toList ds p →
      (∀ (j : Nat) t d, fn.params.toList[j]? = some t → ds[j]? = some d → ∀ m ∈ d.weights C.prog t, m ≤ reachBytes) →
      Calls C.prog f args W fun e W' => e = .returned (.bool true) ∧ Below W.heap.size W W') :
    ReturnsInHanded a C os f .any (fun w args => (s.pre enc C.prog fn conds apart w args ∧ laidMetH C.prog L w) ∧ sizedMet enc C.prog fn (OpenSpec.ofChange s) apart w args) (s.post enc C.prog fn apart fresh handsOn again) := by
  refine returnsInHanded_of_change_and (C := C) (X := fun w _ => laidMetH C.prog L w) (fun _ _ _ hh h => h.of_heap hh) own started noInit hfn witness ?_
  intro W base args ds gs before hval hW _ hsz hL _
  obtain ⟨p, q, hA, hV, rfl, hfz, hnd⟩ := id hW
  rw [hsv] at hV
  obtain ⟨rfl, rfl⟩ := ChangeShapes.trodVars_none hV
  have hlen := trodAll_length hA
  have hds : ds.length = fn.params.size := by simpa using hlen.2
  refine (walk W base args ds p hL hval hA fun j t d h1 h2 m hm => ?_).mono fun e W' ⟨he, hb⟩ => ⟨.bool true, he, ?_⟩
  · have hj : j < fn.params.toList.length := (List.getElem?_eq_some_iff.1 h1).1
    have := List.all_eq_true.1 hsz m (DataW.weights_mem_each (j := j) (by rw [List.getElem?_append_left hj]; exact h1) (by rw [List.getElem?_append_left (by simp at hj; omega)]; exact h2) m hm)
    simpa using this
  · have hlt : ∀ x ∈ p, x.block < W.heap.size := fun x hx => hW.lt x (by simp [hx])
    have e1 : s.fn H (ds ++ []) = { results := [.lit (.bool true)], args := ds } := by rw [List.append_nil]; exact hspec ds hds
    refine post_of_below (pa := p) (pv := []) hW (fun b sp hd => ?_) (fun sp hsp => ?_) (fun sp _ => ?_) rfl hb (ok_one hres rfl (okWide_bool_mk htb true))
    · rw [e1, hres]
      exact ChangeShapes.trodAll_mk1 (shut_bool htb true)
    · rw [e1]
      exact trodAll_after hlaid hb hrd hA hlt sp (fun x hx => hsp x (by simp [hx]))
    · rw [e1, hsv]
      rfl
end Go.Proofs.YtnfpjcjlapljjaaGreatDoor
