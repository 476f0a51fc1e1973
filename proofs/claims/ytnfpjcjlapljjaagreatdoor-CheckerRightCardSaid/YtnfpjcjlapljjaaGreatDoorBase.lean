/- Words for memory, program-free: a slice that reads as a list, a block known whole, an append onto a row of the call's own, frames, results, bits. Words for memory, program-free: slices whose elements are cells that read as data, and the worlds in which they still do. Appends of one element to a row of the call's own, program-free. Copies: 'append([]T{}, xs...)', program-free. -/
import Derived.Below
import Derived.Laws.OwnMore
import Derived.Deep.AppendLies
import Derived.Deep.Draws
import Derived.Laws.Rows
import Derived.Maps.AppendAt
import Derived.RegionTactic
import Derived.OwnWalk
import Derived.Deep.OwnRows
import Derived.Laws.AppendOwn
import Derived.Laws.MakeOwn
import Derived.Laws.Entries
import Derived.Laws.BitsAllLaws
import Derived.Laws.BitsLemmas
import Derived.ChangeSame
import Derived.Calls
import Derived.Deep.QuietTactic
import Derived.Lib.Hide
import Derived.WalkKit
namespace Go.Proofs.YtnfpjcjlapljjaaGreatDoor
open Go Go.RowKit
theorem block_of_add (a : Addr) (n : Nat) : (a.add n).block = a.block := by unfold Addr.add; split <;> rfl
theorem add_of_add (a : Addr) (i j : Nat) : (a.add i).add j = a.add (i + j) := by
  unfold Addr.add
  by_cases hi : i = 0 <;> by_cases hj : j = 0 <;> simp [hi, hj, Nat.add_assoc]

def Reads (w : World) (B size : Nat) (A : Option Addr) (n : Nat) (xs : List Value) : Prop :=
  xs.length = n * size ∧ (0 < n → ∃ ad, A = some ad ∧ ad.block < B ∧ ∀ j u, xs[j]? = some u → w.cell? (ad.add j) = some u)

section
variable {w w' : World} {B B' size n : Nat} {A : Option Addr} {xs : List Value}
theorem Reads.at_ {k : Nat} (h : Reads w B 1 A n xs) (hk : k < n) : ∃ ad u, A = some ad ∧ ad.block < B ∧ xs[k]? = some u ∧ w.cell? (ad.add k) = some u := by
  obtain ⟨ad, e, hb, hc⟩ := h.2 (by omega)
  have hl : k < xs.length := by have := h.1; omega
  exact ⟨ad, xs[k], e, hb, List.getElem?_eq_getElem hl, hc k _ (List.getElem?_eq_getElem hl)⟩
theorem Reads.keep (h : Reads w B size A n xs) (hk : ∀ p : Addr, p.block < B → w'.cell? p = w.cell? p) : Reads w' B size A n xs :=
  ⟨h.1, fun hn => by
    obtain ⟨ad, e, hb, hc⟩ := h.2 hn
    exact ⟨ad, e, hb, fun j u hu => (hk _ (by rw [block_of_add]; exact hb)).trans (hc j u hu)⟩⟩
theorem Reads.more (h : Reads w B size A n xs) (hB : B ≤ B') : Reads w B' size A n xs :=
  ⟨h.1, fun hn => by
    obtain ⟨ad, e, hb, hc⟩ := h.2 hn
    exact ⟨ad, e, by omega, hc⟩⟩
theorem Reads.below (h : Reads w B size A n xs) (hb : Below B w w') : Reads w' B size A n xs := h.keep fun _ hp => hb.cell hp
theorem Reads.drew (h : Reads w B size A n xs) : Reads w.drew B size A n xs := h
theorem Reads.drewN (h : Reads w B size A n xs) (k : Nat) : Reads (w.drewN k) B size A n xs := h
theorem Reads.alloc (h : Reads w B size A n xs) (hB : B ≤ w.heap.size) (o : Obj) : Reads (w.alloc o) B size A n xs := h.keep fun p hp => World.cell?_alloc_lt w o p (by omega)
theorem Reads.setCell (h : Reads w B size A n xs) {p : Addr} (hB : B ≤ p.block) (u : Value) : Reads (w.setCell p u) B size A n xs :=
  h.keep fun q hq => World.cell?_setCell_other w p q u (fun e => by subst e; omega)
theorem Reads.grown (h : Reads w B size A n xs) {row : Option Nat} (hg : w.grownBy w' row) (hB : B ≤ w.heap.size) (hr : ∀ g, row = some g → B ≤ g) : Reads w' B size A n xs :=
  h.keep fun p hp => World.cell?_of_block (hg.block p.block (by omega) (fun e => by have := hr _ e.symm; omega))
theorem Reads.cut (h : Reads w B size A n xs) {k cap : Nat} (hk : k ≤ n) (hc : n ≤ cap) :
    Reads w B size (if cap = k then A else A.map (·.add (k * size))) (n - k) (xs.drop (k * size)) := by
  refine ⟨by rw [List.length_drop, h.1, Nat.sub_mul], fun hn => ?_⟩
  obtain ⟨ad, rfl, hb, hcell⟩ := h.2 (by omega)
  rw [if_neg (by omega)]
  refine ⟨ad.add (k * size), rfl, by rw [block_of_add]; exact hb, fun j u hu => ?_⟩
  rw [add_of_add]
  exact hcell _ u (by rw [← hu, List.getElem?_drop])
theorem Reads.of_own {base : Nat} {e : TypeId} {c : Nat} (h : w.ownsRow base e size (.slice A n c) n xs) : Reads w w.heap.size size A n xs := by
  refine ⟨h.1, fun hn => ?_⟩
  obtain ⟨g, cap, hv, _, hlt⟩ := h.form hn
  have hA : A = some ⟨g, 0, none⟩ := by injection hv
  subst hA
  exact ⟨_, rfl, hlt, h.cells (g := g) rfl⟩
end
def Blk (w : World) (g : Nat) (t : TypeId) (cs : Array Value) : Prop := w.heap[g]? = some (.cells cs t (0, 0))

section
variable {w w' : World} {g : Nat} {t : TypeId} {cs : Array Value}
theorem Blk.lt (h : Blk w g t cs) : g < w.heap.size := by
  rcases Nat.lt_or_ge g w.heap.size with hlt | hge
  · exact hlt
  · unfold Blk at h; rw [Array.getElem?_eq_none hge] at h; cases h
theorem Blk.cell (h : Blk w g t cs) (i : Nat) : w.cell? ⟨g, i, none⟩ = cs[i]? := cell_of_row w g i cs t (0, 0) h
theorem Blk.frozen (h : Blk w g t cs) (i : Nat) : w.frozen? ⟨g, i, none⟩ = false := by
  unfold Blk at h
  simp [World.frozen?, h]
theorem Blk.new (w : World) (t : TypeId) (cs : Array Value) : Blk (w.alloc (.cells cs t)) w.heap.size t cs := heap_alloc_new w _
theorem Blk.drew (h : Blk w g t cs) : Blk w.drew g t cs := h
theorem Blk.drewN (h : Blk w g t cs) (n : Nat) : Blk (w.drewN n) g t cs := h
theorem Blk.alloc (h : Blk w g t cs) (o : Obj) : Blk (w.alloc o) g t cs := (Below.heap_alloc w o g h.lt).trans h
theorem Blk.set_ (h : Blk w g t cs) (i : Nat) (u : Value) : Blk (w.setCell ⟨g, i, none⟩ u) g t (cs.setIfInBounds i u) := by
  unfold Blk at h ⊢
  simp [World.setCell, Array.getElem?_modify, h]
theorem Blk.far (h : Blk w g t cs) {p : Addr} (hp : g ≠ p.block) (u : Value) : Blk (w.setCell p u) g t cs := (Below.heap_setCell w p u g hp).trans h
theorem Blk.below {B : Nat} (h : Blk w g t cs) (hb : Below B w w') (hg : g < B) : Blk w' g t cs := (hb.block g hg).trans h
theorem Blk.grown {row : Option Nat} (h : Blk w g t cs) (hb : w.grownBy w' row) (hg : some g ≠ row) : Blk w' g t cs := (hb.block g h.lt hg).trans h
theorem Blk.ne_ {g' : Nat} {t' : TypeId} {cs' : Array Value} (h : Blk w g t cs) (h' : Blk w g' t' cs') (hne : t ≠ t') : g ≠ g' := by
  rintro rfl
  unfold Blk at h h'
  rw [h] at h'
  injection h' with h'
  injection h' with _ ht
  exact hne ht
theorem own_blk_ne {base : Nat} {e : TypeId} {size n : Nat} {v : Value} {xs : List Value} (h : w.ownsRow base e size v n xs) (hg : Blk w g t cs) (hne : e ≠ t) : v.ownBlock ≠ some g := by
  rcases h.2 with ⟨rfl, _⟩ | ⟨g', cap, cur, rfl, _, hh, _⟩
  · simp [Value.ownBlock]
  · intro he
    have : g' = g := by simpa [Value.ownBlock] using he
    subst this
    exact Blk.ne_ (t := e) hh hg hne rfl
end
section
variable {P : Program} (w : World)

end
theorem below_drewN {B : Nat} {a w : World} (h : Below B a w) (n : Nat) : Below B a (w.drewN n) := ⟨h.os, h.tape, h.output, h.size, h.block⟩
theorem only_setCell {a w : World} {g : Nat} (h : a.grownBy w (some g)) {p : Addr} (hp : p.block = g ∨ a.heap.size ≤ p.block) (u : Value) : a.grownBy (w.setCell p u) (some g) :=
  ⟨h.os, h.tape, h.output, by simpa [World.setCell] using h.size, fun i hi hne => (Below.heap_setCell w p u i (by
    rintro rfl
    rcases hp with hp | hp
    · exact hne (by rw [hp])
    · omega)).trans (h.block i hi hne)⟩
theorem only_of_below {a w : World} (h : Below a.heap.size a w) (row : Option Nat) : a.grownBy w row := ⟨h.os, h.tape, h.output, h.size, fun i hi _ => h.block i hi⟩
theorem run_make_rowN {P : Program} (t e : TypeId) (i : TypeInfo) (z : Value) (ht : P.underlying t = some (.slice e)) (hi : P.info? e = some i) (hz : i.zero = some z)
    (kl kc : IntKind) (n c : Nat) (hnc : n ≤ c) (hbytes : i.bytes * c ≤ 281474976710656) (h63 : c ≤ 9223372036854775807) (w : World) :
    (Instr.makeSlice t (.int kl (n : Int)) (.int kc (c : Int))).run P w = .ok (.slice (some ⟨w.heap.size, 0, none⟩) n c) (w.alloc (.cells (madeCells z.cells (c * i.size)) e)) := by
  have hb : (i.bytes : Int) * (c : Int) ≤ 281474976710656 := by
    have h : ((i.bytes * c : Nat) : Int) ≤ 281474976710656 := by omega
    rwa [Int.natCast_mul] at h
  have hr := run_make (P := P) w t e i z ht hi hz kl kc n c (by omega) (by omega) hb (by omega)
  simp only [Int.toNat_natCast] at hr
  exact hr
open Go.WideShapes Go.ChangeShapes
section
variable {H : Type} {enc : TypeId × Value → H} {P : Program}
theorem post_of_below {f : Func} {s : ChangeSpec} {apart fresh handsOn again : Bool} {W W' : World} {args : Array Value} {v : Value} {ds gs : List (DataW H)} {before pa pv : List MemPlace}
    (hW : DataW.Whole enc P f.params.toList s.vars apart W args.toList ds gs before)
    (hres : ∀ (b : Nat) (sp : Nat → Bool) (hd : Bool), DataW.TrodAll enc P W' b sp hd f.resultTypes.toList (v.resultList f.resultTypes.size) (s.fn H (ds ++ gs)).results [])
    (hargs : ∀ sp : Nat → Bool, (∀ p ∈ before, sp p.block = true) → DataW.TrodAll enc P W' 0 sp true f.params.toList args.toList (s.fn H (ds ++ gs)).args pa)
    (hvars : ∀ sp : Nat → Bool, (∀ p ∈ before, sp p.block = true) → DataW.TrodVars enc P W' sp s.vars (s.fn H (ds ++ gs)).vars pv)
    (hps : before = pa ++ pv) (hb : Below W.heap.size W W')
    (hok : ∀ (j : Nat) (t : TypeId) (r : Value), f.resultTypes[j]? = some t → (v.resultList f.resultTypes.size)[j]? = some r → Value.okWide P W' .any 0 t r) :
    s.post enc P f apart fresh handsOn again W args v W' := by
  have hlt : ∀ p ∈ before, p.block < W.heap.size := fun p hp => hW.lt p hp
  have hold : ∀ p ∈ before, (fun b => decide (b < W.heap.size)) p.block = true := fun p hp => by simpa using hlt p hp
  refine ⟨ds, gs, before, [], pa, pv, hW, hres _ _ _, hargs _ hold, hvars _ hold, World.keptBut_mono (fun p hp => ⟨hp, ?_⟩) (hb.frame (· ∈ before)), fun _ => ?_⟩
  · rw [hps, List.mem_append] at hp
    exact Or.inr hp
  · obtain ⟨_, _, _, _, _, hz, hn⟩ := hW
    refine ⟨hok, _, _, ([] ++ pa) ++ pv, ⟨[] ++ pa, pv, trodAll_append (hargs _ (fun _ _ => rfl)) (hres _ _ _), hvars _ (fun _ _ => rfl), rfl, ?_, ?_⟩, ?_⟩
    · intro b off hp
      have hin : MemPlace.cell b off ∈ before := by rw [hps]; simpa using hp
      rw [hb.frozen (hlt _ hin)]
      exact hz b off hin
    · intro ha
      have := hn ha
      rw [hps] at this
      simpa using this
    · intro p hp _
      rw [hps]
      simpa using hp
end
end Go.Proofs.YtnfpjcjlapljjaaGreatDoor
namespace Go.Proofs.YtnfpjcjlapljjaaGreatDoor
open Go Go.RowKit

/-- The worlds have the same blocks of F. -/
def Agree (F : Nat → Prop) (w w' : World) : Prop := ∀ b, F b → w'.heap[b]? = w.heap[b]?
theorem Agree.refl (F : Nat → Prop) (w : World) : Agree F w w := fun _ _ => rfl
theorem Agree.trans {F : Nat → Prop} {a b c : World} (h : Agree F a b) (k : Agree F b c) : Agree F a c := fun i hi => (k i hi).trans (h i hi)
theorem Agree.mono {F G : Nat → Prop} {w w' : World} (h : Agree F w w') (hg : ∀ b, G b → F b) : Agree G w w' := fun b hb => h b (hg b hb)
theorem Agree.below {F : Nat → Prop} {B : Nat} {w w' : World} (h : Below B w w') (hF : ∀ b, F b → b < B) : Agree F w w' := fun b hb => h.block b (hF b hb)
theorem Agree.grown {F : Nat → Prop} {row : Option Nat} {w w' : World} (h : w.grownBy w' row) (hF : ∀ b, F b → b < w.heap.size ∧ some b ≠ row) : Agree F w w' :=
  fun b hb => h.block b (hF b hb).1 (hF b hb).2
theorem Agree.alloc {F : Nat → Prop} {w : World} (o : Obj) (hF : ∀ b, F b → b < w.heap.size) : Agree F w (w.alloc o) := fun b hb => Below.heap_alloc w o b (hF b hb)
theorem Agree.setCell {F : Nat → Prop} {w : World} {p : Addr} (u : Value) (hF : ∀ b, F b → b ≠ p.block) : Agree F w (w.setCell p u) := fun b hb => Below.heap_setCell w p u b (hF b hb)
theorem Agree.drew {F : Nat → Prop} {w : World} : Agree F w w.drew := fun _ _ => rfl
theorem Agree.drewN {F : Nat → Prop} {w : World} (n : Nat) : Agree F w (w.drewN n) := fun _ _ => rfl
theorem Agree.cell {F : Nat → Prop} {w w' : World} (h : Agree F w w') {p : Addr} (hp : F p.block) : w'.cell? p = w.cell? p := World.cell?_of_block (w := w) (h p.block hp)

/-- Steps of a call that leaves all that was there. -/
theorem Bt {a b c : World} (h : Below a.heap.size a b) (k : Below b.heap.size b c) : Below a.heap.size a c := h.trans (k.mono h.size)
theorem Ba {a b : World} (h : Below a.heap.size a b) (o : Obj) : Below a.heap.size a (b.alloc o) := h.alloc h.size o
theorem Bs {a b : World} (h : Below a.heap.size a b) {p : Addr} (u : Value) (hp : a.heap.size ≤ p.block) : Below a.heap.size a (b.setCell p u) := h.setCell hp u
theorem B0 (w : World) : Below w.heap.size w w := Below.refl _ w
theorem Bc {a b : World} (h : Below a.heap.size a b) {k o : Nat} (hk : k < a.heap.size) : b.cell? ⟨k, o, none⟩ = a.cell? ⟨k, o, none⟩ := h.cell (p := ⟨k, o, none⟩) hk

def New (B B' : Nat) : Nat → Prop := fun b => B ≤ b ∧ b < B'

/-- The cells from p on hold us. -/
def Flds (w : World) (p : Addr) (us : List Value) : Prop := ∀ j u, us[j]? = some u → w.cell? (p.add j) = some u
section
variable {w w' : World} {p : Addr} {us : List Value} {F : Nat → Prop}
theorem Flds.keep (h : Flds w p us) (ha : Agree F w w') (hp : F p.block) : Flds w' p us := fun j u hu => (ha.cell (by rw [block_of_add]; exact hp)).trans (h j u hu)
theorem Flds.below {B : Nat} (h : Flds w p us) (hb : Below B w w') (hp : p.block < B) : Flds w' p us := fun j u hu => (hb.cell (by rw [block_of_add]; exact hp)).trans (h j u hu)
theorem Flds.f0 {u : Value} (h : Flds w p us) (hu : us[0]? = some u) : w.cell? p = some u := by simpa [Addr.add] using h 0 u hu
theorem Flds.fs {u : Value} (h : Flds w p us) (j : Nat) (hu : us[j + 1]? = some u) : w.cell? ⟨p.block, p.off + (j + 1), none⟩ = some u := by simpa [Addr.add] using h (j + 1) u hu
theorem Flds.f1 {u : Value} (h : Flds w p us) (hu : us[1]? = some u) : w.cell? ⟨p.block, p.off + 1, none⟩ = some u := h.fs 0 hu
theorem Flds.f2 {u : Value} (h : Flds w p us) (hu : us[2]? = some u) : w.cell? ⟨p.block, p.off + 2, none⟩ = some u := h.fs 1 hu
theorem Flds.f3 {u : Value} (h : Flds w p us) (hu : us[3]? = some u) : w.cell? ⟨p.block, p.off + 3, none⟩ = some u := h.fs 2 hu
theorem Flds.f4 {u : Value} (h : Flds w p us) (hu : us[4]? = some u) : w.cell? ⟨p.block, p.off + 4, none⟩ = some u := h.fs 3 hu
end

/-- The slice value v reads as the list l: element i has k cells that read as l[i] by R. -/
def Sl {α : Type} (F : Nat → Prop) (k : Nat) (R : World → List Value → α → Prop) (w : World) (v : Value) (l : List α) : Prop :=
  ∃ A c, v = .slice A l.length c ∧ l.length ≤ c ∧ l.length ≤ 140737488355328 ∧
    ∀ i (hi : i < l.length), ∃ ad cs, A = some ad ∧ F ad.block ∧ cs.length = k ∧ R w cs l[i] ∧ Flds w (ad.add (i * k)) cs

section
variable {α : Type} {F G : Nat → Prop} {k : Nat} {R : World → List Value → α → Prop} {w w' : World} {v : Value} {l : List α}
theorem Sl.keep (h : Sl F k R w v l) (ha : Agree F w w') (hR : ∀ cs x, R w cs x → R w' cs x) : Sl F k R w' v l := by
  obtain ⟨A, c, hv, hc, hl, hi⟩ := h
  refine ⟨A, c, hv, hc, hl, fun i hil => ?_⟩
  obtain ⟨ad, cs, hA, hF, hk, hr, hcell⟩ := hi i hil
  exact ⟨ad, cs, hA, hF, hk, hR _ _ hr, hcell.keep ha (by rw [block_of_add]; exact hF)⟩
theorem Sl.mono (h : Sl F k R w v l) (hF : ∀ b, F b → G b) : Sl G k R w v l := by
  obtain ⟨A, c, hv, hc, hl, hi⟩ := h
  refine ⟨A, c, hv, hc, hl, fun i hil => ?_⟩
  obtain ⟨ad, cs, hA, hf, r⟩ := hi i hil
  exact ⟨ad, cs, hA, hF _ hf, r⟩
theorem Sl.monoR {R' : World → List Value → α → Prop} (h : Sl F k R w v l) (hR : ∀ cs x, R w cs x → R' w cs x) : Sl F k R' w v l := by
  obtain ⟨A, c, hv, hc, hl, hi⟩ := h
  refine ⟨A, c, hv, hc, hl, fun i hil => ?_⟩
  obtain ⟨ad, cs, hA, hf, hk, hr, r⟩ := hi i hil
  exact ⟨ad, cs, hA, hf, hk, hR _ _ hr, r⟩
theorem Sl.nil_ : Sl F k R w (.slice none 0 0) ([] : List α) := ⟨none, 0, rfl, by simp, by simp, fun i hi => absurd hi (by simp)⟩
/-- A row of the call's own, read as a list. -/
theorem Sl.of_own {base : Nat} {e : TypeId} {n : Nat} {xs : List Value} {cs : List (List Value)} (h : w.ownsRow base e k v n xs) (hn : n = l.length) (hl : l.length ≤ 140737488355328)
    (hx : xs = cs.flatten) (hcl : cs.length = l.length) (hR : ∀ i (hi : i < l.length), ∃ c, cs[i]? = some c ∧ c.length = k ∧ R w c l[i]) (hF : ∀ b, base ≤ b → b < w.heap.size → v.ownBlock = some b → F b) : Sl F k R w v l := by
  subst hn
  have hform : l.length = 0 ∨ 0 < l.length := by omega
  have hlens : ∀ (L : List (List Value)), (∀ c ∈ L, c.length = k) → ∀ i c, L[i]? = some c → ∀ j u, c[j]? = some u → L.flatten[i * k + j]? = some u := by
    intro L
    induction L with
    | nil => intro _ i c h; simp at h
    | cons x L ih =>
      intro hall i c h j u hu
      have hx : x.length = k := hall x (by simp)
      cases i with
      | zero =>
        simp only [List.getElem?_cons_zero, Option.some.injEq] at h
        subst h
        have hj : j < x.length := by
          rcases Nat.lt_or_ge j x.length with h | h
          · exact h
          · rw [List.getElem?_eq_none h] at hu; cases hu
        simp only [List.flatten_cons, Nat.zero_mul, Nat.zero_add]
        rw [List.getElem?_append_left hj, hu]
      | succ i =>
        simp only [List.getElem?_cons_succ] at h
        have := ih (fun c hc => hall c (List.mem_cons_of_mem _ hc)) i c h j u hu
        simp only [List.flatten_cons]
        rw [List.getElem?_append_right (by rw [hx, Nat.succ_mul]; omega), hx, Nat.succ_mul]
        rw [show i * k + k + j - k = i * k + j from by omega]
        exact this
  have hallk : ∀ c ∈ cs, c.length = k := by
    intro c hc
    obtain ⟨i, hi, rfl⟩ := List.getElem_of_mem hc
    obtain ⟨c', hc', hk', _⟩ := hR i (by omega)
    rw [List.getElem?_eq_getElem hi] at hc'
    injection hc' with hc'
    rw [hc']; exact hk'
  rcases Nat.eq_zero_or_pos l.length with h0 | h0
  · have hl0 : l = [] := List.eq_nil_of_length_eq_zero h0
    subst hl0
    rcases h.2 with ⟨rfl, _⟩ | ⟨g, cap, cur, rfl, _, _, hnc, _⟩
    · exact ⟨none, 0, rfl, by simp, by simp, fun i hi => absurd hi (by simp)⟩
    · exact ⟨_, cap, rfl, by simp, by simp, fun i hi => absurd hi (by simp)⟩
  · obtain ⟨g, cap, hv, hb, hlt⟩ := h.form h0
    subst hv
    refine ⟨_, cap, rfl, ?_, hl, fun i hi => ?_⟩
    · rcases h.2 with ⟨hh, _⟩ | ⟨g', cap', cur, hh, _, _, hnc, _⟩
      · cases hh
      · injection hh with _ _ h3; subst h3; exact hnc
    · obtain ⟨c, hc, hk', hr⟩ := hR i hi
      refine ⟨_, c, rfl, hF g hb hlt (by simp [Value.ownBlock]), hk', hr, fun j u hu => ?_⟩
      have := hlens cs hallk i c hc j u hu
      rw [← hx] at this
      rw [add_of_add]
      exact h.cells (g := g) rfl _ _ this
end

/-- A cell that is an int. -/
def IntC (_ : World) (cs : List Value) (x : Int) : Prop := cs = [.int .i64 x]
abbrev SlI (F : Nat → Prop) (w : World) (v : Value) (l : List Int) : Prop := Sl F 1 IntC w v l
theorem SlI.open {F : Nat → Prop} {w : World} {v : Value} {l : List Int} (h : SlI F w v l) : ∃ A c, v = .slice A l.length c ∧ l.length ≤ c ∧ l.length ≤ 140737488355328 ∧
    ∀ i (hi : i < l.length), ∃ ad, A = some ad ∧ F ad.block ∧ w.cell? (ad.add i) = some (.int .i64 l[i]) := by
  obtain ⟨A, c, hv, hc, hl, hi⟩ := h
  refine ⟨A, c, hv, hc, hl, fun i hil => ?_⟩
  obtain ⟨ad, cs, hA, hF, hk, hr, hcell⟩ := hi i hil
  unfold IntC at hr
  subst hr
  exact ⟨ad, hA, hF, by simpa using hcell.f0 rfl⟩
theorem SlI.keep {F : Nat → Prop} {w w' : World} {v : Value} {l : List Int} (h : SlI F w v l) (ha : Agree F w w') : SlI F w' v l := Sl.keep h ha fun _ _ hr => hr

theorem SlI.one {F : Nat → Prop} {W : World} {b : Nat} {x : Int} (hc : W.cell? ⟨b, 0, none⟩ = some (.int .i64 x)) (hF : F b) : SlI F W (.slice (some ⟨b, 0, none⟩) 1 1) [x] := by
  refine ⟨_, 1, rfl, by simp, by simp, fun i hi => ?_⟩
  obtain rfl : i = 0 := by simp at hi; omega
  refine ⟨_, [.int .i64 x], rfl, hF, rfl, rfl, fun j u hu => ?_⟩
  cases j with
  | zero => simp at hu; subst hu; simpa [Addr.add] using hc
  | succ j => simp at hu

/-- A cell that is a slice of ints; a slice of slices of ints. -/
def SlC (F : Nat → Prop) (w : World) (cs : List Value) (l : List Int) : Prop := ∃ u, cs = [u] ∧ SlI F w u l
abbrev SlII (F : Nat → Prop) (w : World) (v : Value) (l : List (List Int)) : Prop := Sl F 1 (SlC F) w v l
theorem SlII.open {F : Nat → Prop} {w : World} {v : Value} {l : List (List Int)} (h : SlII F w v l) : ∃ A c, v = .slice A l.length c ∧ l.length ≤ c ∧ l.length ≤ 140737488355328 ∧
    ∀ i (hi : i < l.length), ∃ ad u, A = some ad ∧ F ad.block ∧ w.cell? (ad.add i) = some u ∧ SlI F w u l[i] := by
  obtain ⟨A, c, hv, hc, hl, hi⟩ := h
  refine ⟨A, c, hv, hc, hl, fun i hil => ?_⟩
  obtain ⟨ad, cs, hA, hF, hk, ⟨u, rfl, hr⟩, hcell⟩ := hi i hil
  exact ⟨ad, u, hA, hF, by simpa using hcell.f0 rfl, hr⟩
theorem SlII.keep {F : Nat → Prop} {w w' : World} {v : Value} {l : List (List Int)} (h : SlII F w v l) (ha : Agree F w w') : SlII F w' v l :=
  Sl.keep h ha fun _ _ ⟨u, e, hr⟩ => ⟨u, e, hr.keep ha⟩
end Go.Proofs.YtnfpjcjlapljjaaGreatDoor
namespace Go.Proofs.YtnfpjcjlapljjaaGreatDoor
open Go Go.RowKit

/-- An element type of k cells. -/
structure ElemN (P : Program) (t e : TypeId) (k bytes : Nat) : Prop where
  ht : P.underlying t = some (.slice e)
  hi : ∃ i z, P.info? e = some i ∧ i.zero = some z ∧ i.size = k ∧ i.bytes = bytes ∧ z.cells.size = k

section
variable {P : Program} {w : World} {ops : Array Oper} {rest : List Oper} {o : Oper} {a : Act} {Q : Exit → Act → World → Prop}

/-- 'out = append(out, y)', y's cells at a new block: the row has one element more. -/
theorem wpList_app {t e : TypeId} {k bytes : Nat} (E : ElemN P t e k bytes) (hk : 0 < k) (hgd : o.guard = none) (s x : Operand) (ho : o.op = .call { callee := .builtin .append, args := #[s, x], argTypes := #[t, t] })
    (base : Nat) (v : Value) (n : Nat) (xs : List Value) (hs : a.eval s = v) (hown : w.ownsRow base e k v n xs) (ad : Addr) (c : Nat) (news : List Value) (hx : a.eval x = .slice (some ad) 1 c)
    (hl : news.length = k) (hnews : Flds w ad news) (h1 : ∀ u ∈ news, u.oneCell' = true) (hn : n + 1 ≤ 1000000000) (hb : bytes ≤ 1000) (hbase : base ≤ w.heap.size)
    (h : ∀ v' w', w'.ownsRow base e k v' (n + 1) (xs ++ news) → w.grownBy w' v.ownBlock → (v'.ownBlock = v.ownBlock ∨ v'.ownBlock = some w.heap.size) → wpList P ops Q rest (a.put o.dst v') w') : wpList P ops Q (o :: rest) a w := by
  obtain ⟨ht, i, z, hi, hz, hsz, hby, hzs⟩ := E
  refine wpList_plain hgd fun K hK => ?_
  obtain ⟨v', w', hrun, h2, h3, _, h5⟩ := run_append_own_at (P := P) w base t o.type e i z k bytes ht hi hz hsz hby hzs hk v n xs hown ad 1 c news (by omega) hnews h1
    (by unfold maxLen; omega) (by have : (n + 1) * bytes ≤ 1000000000 * 1000 := Nat.mul_le_mul hn hb
                                  omega) hbase
  unfold Oper.wp execOp
  simp only [ho, resolve, invoke, builtin, Sem.run_bind, Sem.run_pure, Result.andThen_ok, List.map_toArray, List.map_cons, List.map_nil, hs, hx, hrun]
  exact hK _ _ (h v' w' h2 h3 h5)

theorem step_app {K : Act → World → Prop} {E' : Prop} {t e : TypeId} {k bytes : Nat} (E : ElemN P t e k bytes) (hk : 0 < k) (hgd : o.guard = none) (s x : Operand) (ho : o.op = .call { callee := .builtin .append, args := #[s, x], argTypes := #[t, t] })
    (base : Nat) (v : Value) (n : Nat) (xs : List Value) (hs : a.eval s = v) (hown : w.ownsRow base e k v n xs) (ad : Addr) (c : Nat) (news : List Value) (hx : a.eval x = .slice (some ad) 1 c)
    (hl : news.length = k) (hnews : Flds w ad news) (h1 : ∀ u ∈ news, u.oneCell' = true) (hn : n + 1 ≤ 1000000000) (hb : bytes ≤ 1000) (hbase : base ≤ w.heap.size)
    (h : ∀ v' w', w'.ownsRow base e k v' (n + 1) (xs ++ news) → w.grownBy w' v.ownBlock → (v'.ownBlock = v.ownBlock ∨ v'.ownBlock = some w.heap.size) → K (a.put o.dst v') w') :
    if Region.wanted o (yielded ops a.tmps) = true then Oper.wp P o a w K Q else E' := by
  obtain ⟨ht, i, z, hi, hz, hsz, hby, hzs⟩ := E
  rw [if_pos (by simp [Region.wanted, hgd])]
  obtain ⟨v', w', hrun, h2, h3, _, h5⟩ := run_append_own_at (P := P) w base t o.type e i z k bytes ht hi hz hsz hby hzs hk v n xs hown ad 1 c news (by omega) hnews h1
    (by unfold maxLen; omega) (by have : (n + 1) * bytes ≤ 1000000000 * 1000 := Nat.mul_le_mul hn hb
                                  omega) hbase
  unfold Oper.wp execOp
  simp only [ho, resolve, invoke, builtin, Sem.run_bind, Sem.run_pure, Result.andThen_ok, List.map_toArray, List.map_cons, List.map_nil, hs, hx, hrun]
  exact h v' w' h2 h3 h5

theorem Flds.one {w : World} {b : Nat} {u : Value} (h : w.cell? ⟨b, 0, none⟩ = some u) : Flds w ⟨b, 0, none⟩ [u] := fun j x hx => by
  cases j with
  | zero => simp at hx; subst hx; simpa [Addr.add] using h
  | succ j => simp at hx

/-- The same, the new slice written out. -/
theorem own_lit {w : World} {base : Nat} {e : TypeId} {k n : Nat} {v : Value} {xs : List Value} (h : w.ownsRow base e k v (n + 1) xs) : ∃ g cap, v = .slice (some ⟨g, 0, none⟩) (n + 1) cap := by
  obtain ⟨g, cap, hv, _⟩ := h.form (by omega)
  exact ⟨g, cap, hv⟩
theorem wpList_appS {t e : TypeId} {k bytes : Nat} (E : ElemN P t e k bytes) (hk : 0 < k) (hgd : o.guard = none) (s x : Operand) (ho : o.op = .call { callee := .builtin .append, args := #[s, x], argTypes := #[t, t] })
    (base : Nat) (v : Value) (n : Nat) (xs : List Value) (hs : a.eval s = v) (hown : w.ownsRow base e k v n xs) (ad : Addr) (c : Nat) (news : List Value) (hx : a.eval x = .slice (some ad) 1 c)
    (hl : news.length = k) (hnews : Flds w ad news) (h1 : ∀ u ∈ news, u.oneCell' = true) (hn : n + 1 ≤ 1000000000) (hb : bytes ≤ 1000) (hbase : base ≤ w.heap.size)
    (h : ∀ g cap w', w'.ownsRow base e k (.slice (some ⟨g, 0, none⟩) (n + 1) cap) (n + 1) (xs ++ news) → w.grownBy w' v.ownBlock → (some g = v.ownBlock ∨ g = w.heap.size) → wpList P ops Q rest (a.put o.dst (.slice (some ⟨g, 0, none⟩) (n + 1) cap)) w') : wpList P ops Q (o :: rest) a w :=
  wpList_app E hk hgd s x ho base v n xs hs hown ad c news hx hl hnews h1 hn hb hbase fun v' w' q1 q2 q3 => by
    obtain ⟨g, cap, rfl⟩ := own_lit q1
    exact h g cap w' q1 q2 (by simpa [Value.ownBlock] using q3)
theorem step_appS {K : Act → World → Prop} {E' : Prop} {t e : TypeId} {k bytes : Nat} (E : ElemN P t e k bytes) (hk : 0 < k) (hgd : o.guard = none) (s x : Operand) (ho : o.op = .call { callee := .builtin .append, args := #[s, x], argTypes := #[t, t] })
    (base : Nat) (v : Value) (n : Nat) (xs : List Value) (hs : a.eval s = v) (hown : w.ownsRow base e k v n xs) (ad : Addr) (c : Nat) (news : List Value) (hx : a.eval x = .slice (some ad) 1 c)
    (hl : news.length = k) (hnews : Flds w ad news) (h1 : ∀ u ∈ news, u.oneCell' = true) (hn : n + 1 ≤ 1000000000) (hb : bytes ≤ 1000) (hbase : base ≤ w.heap.size)
    (h : ∀ g cap w', w'.ownsRow base e k (.slice (some ⟨g, 0, none⟩) (n + 1) cap) (n + 1) (xs ++ news) → w.grownBy w' v.ownBlock → (some g = v.ownBlock ∨ g = w.heap.size) → K (a.put o.dst (.slice (some ⟨g, 0, none⟩) (n + 1) cap)) w') :
    if Region.wanted o (yielded ops a.tmps) = true then Oper.wp P o a w K Q else E' :=
  step_app E hk hgd s x ho base v n xs hs hown ad c news hx hl hnews h1 hn hb hbase fun v' w' q1 q2 q3 => by
    obtain ⟨g, cap, rfl⟩ := own_lit q1
    exact h g cap w' q1 q2 (by simpa [Value.ownBlock] using q3)

theorem Flds.of_list {w : World} {b : Nat} {us : List Value} (h : ∀ j (hj : j < us.length), w.cell? ⟨b, j, none⟩ = some us[j]) : Flds w ⟨b, 0, none⟩ us := fun j x hx => by
  obtain ⟨hj, rfl⟩ := List.getElem?_eq_some_iff.1 hx
  have : (⟨b, 0, none⟩ : Addr).add j = ⟨b, j, none⟩ := by unfold Addr.add; split <;> simp_all
  rw [this]; exact h j hj
/-- The cells of a block just made. -/
theorem Flds.new (w : World) (us : List Value) (e : TypeId) : Flds (w.alloc (.cells us.toArray e)) ⟨w.heap.size, 0, none⟩ us := Flds.of_list fun j hj => by
  rw [(Blk.new w e us.toArray).cell j]; simp [hj]
/-- The same for an element of one cell. -/
theorem wpList_app1 {t e : TypeId} {bytes : Nat} (E : ElemN P t e 1 bytes) (hgd : o.guard = none) (s x : Operand) (ho : o.op = .call { callee := .builtin .append, args := #[s, x], argTypes := #[t, t] })
    (base : Nat) (v : Value) (n : Nat) (xs : List Value) (hs : a.eval s = v) (hown : w.ownsRow base e 1 v n xs) (b : Nat) (u : Value) (hx : a.eval x = .slice (some ⟨b, 0, none⟩) 1 1)
    (hc : w.cell? ⟨b, 0, none⟩ = some u) (h1 : u.oneCell' = true) (hn : n + 1 ≤ 1000000000) (hb : bytes ≤ 1000) (hbase : base ≤ w.heap.size)
    (h : ∀ v' w', w'.ownsRow base e 1 v' (n + 1) (xs ++ [u]) → w.grownBy w' v.ownBlock → (v'.ownBlock = v.ownBlock ∨ v'.ownBlock = some w.heap.size) → wpList P ops Q rest (a.put o.dst v') w') : wpList P ops Q (o :: rest) a w :=
  wpList_app E (by omega) hgd s x ho base v n xs hs hown ⟨b, 0, none⟩ 1 [u] hx rfl (Flds.one hc) (by simpa using h1) hn hb hbase h
end

theorem Bg {a b c : World} {base : Nat} {e : TypeId} {k n : Nat} {v : Value} {xs : List Value} (h : Below a.heap.size a b) (hown : b.ownsRow base e k v n xs) (hbase : a.heap.size ≤ base) (hg : b.grownBy c v.ownBlock) : Below a.heap.size a c :=
  h.grown hg h.size fun k hk => Nat.le_trans hbase (hown.lt k hk).1

/-- A row of the call's own whose elements read as a list. -/
def OwnL {α : Type} (base : Nat) (e : TypeId) (k : Nat) (R : World → List Value → α → Prop) (w : World) (v : Value) (l : List α) : Prop :=
  ∃ cs : List (List Value), cs.length = l.length ∧ (∀ i (h : i < l.length), ∃ c, cs[i]? = some c ∧ c.length = k ∧ R w c l[i]) ∧ w.ownsRow base e k v l.length cs.flatten
section
variable {α : Type} {base : Nat} {e : TypeId} {k : Nat} {R R' : World → List Value → α → Prop} {w w' : World} {v v' : Value} {l : List α}
theorem OwnL.nil : OwnL base e k R w (.slice none 0 0) ([] : List α) := ⟨[], rfl, fun i h => absurd h (by simp), World.ownsRow_nil _ _ _ _⟩
theorem OwnL.keep (h : OwnL base e k R w v l) (_ : w.ownsRow base e k v l.length = w.ownsRow base e k v l.length) (hw : ∀ xs, w.ownsRow base e k v l.length xs → w'.ownsRow base e k v l.length xs) (hR : ∀ c x, R w c x → R' w' c x) : OwnL base e k R' w' v l := by
  obtain ⟨cs, h1, h2, h3⟩ := h
  exact ⟨cs, h1, fun i hi => by obtain ⟨c, a, b, d⟩ := h2 i hi; exact ⟨c, a, b, hR _ _ d⟩, hw _ h3⟩
theorem OwnL.alloc (h : OwnL base e k R w v l) (o : Obj) (hR : ∀ c x, R w c x → R' (w.alloc o) c x) : OwnL base e k R' (w.alloc o) v l := h.keep rfl (fun _ h => h.alloc o) hR
theorem OwnL.snoc {cs : List (List Value)} {c : List Value} {x : α} (h1 : cs.length = l.length) (h2 : ∀ i (h : i < l.length), ∃ c, cs[i]? = some c ∧ c.length = k ∧ R w c l[i]) (hc : c.length = k)
    (hx : R' w' c x) (hR : ∀ c x, R w c x → R' w' c x) (h3 : w'.ownsRow base e k v' (l.length + 1) (cs.flatten ++ c)) : OwnL base e k R' w' v' (l ++ [x]) := by
  refine ⟨cs ++ [c], by simp [h1], fun i hi => ?_, by simpa using h3⟩
  rcases Nat.lt_or_ge i l.length with hlt | hge
  · obtain ⟨d, a, b, r⟩ := h2 i hlt
    refine ⟨d, by rw [List.getElem?_append_left (by omega)]; exact a, b, ?_⟩
    rw [List.getElem_append_left hlt]; exact hR _ _ r
  · have : i = l.length := by simp at hi; omega
    subst this
    refine ⟨c, by rw [← h1, List.getElem?_concat_length], hc, ?_⟩
    simpa using hx
theorem OwnL.sl {F : Nat → Prop} (h : OwnL base e k R w v l) (hl : l.length ≤ 140737488355328) (hF : ∀ b, base ≤ b → b < w.heap.size → v.ownBlock = some b → F b) : Sl F k R w v l := by
  obtain ⟨cs, h1, h2, h3⟩ := h
  exact Sl.of_own h3 rfl hl rfl h1 h2 hF
theorem OwnL.lt (h : OwnL base e k R w v l) : ∀ b, v.ownBlock = some b → base ≤ b ∧ b < w.heap.size := by
  obtain ⟨cs, h1, h2, h3⟩ := h
  exact h3.lt
end

/-- A made row of zeros. -/
theorem madeCells_one (z : Value) (n : Nat) : madeCells #[z] n = (List.replicate n z).toArray := by
  unfold madeCells
  apply Array.ext
  · simp
  · intro i h1 h2
    simp [Nat.mod_one]

/-- 'make([]T, n)', T of one cell. -/
theorem run_make1 {P : Program} {t e : TypeId} {z : Value} {bytes : Nat} (ht : P.underlying t = some (.slice e)) (hinfo : (P.info? e).map (fun i => (i.zero, i.size, i.bytes)) = some (some z, 1, bytes)) (hz : z.cells = #[z])
    (cs : Array Value) (n : Nat) (hcs : cs = (List.replicate n z).toArray) (hn : n ≤ 1000000000) (hb : bytes ≤ 1000) (W : World) :
    (Instr.makeSlice t (.int .i64 (n : Int)) (.int .i64 (n : Int))).run P W = .ok (.slice (some ⟨W.heap.size, 0, none⟩) n n) (W.alloc (.cells cs e)) := by
  obtain ⟨i, hi, h1, h2, h3⟩ := info_parts hinfo
  have := run_make_rowN t e i z ht hi h1 .i64 .i64 n n (Nat.le_refl _) (by rw [h3]; have : bytes * n ≤ 1000 * 1000000000 := Nat.mul_le_mul hb hn
                                                                           omega) (by omega) W
  rw [this, hz, h2, Nat.mul_one, madeCells_one, ← hcs]
end Go.Proofs.YtnfpjcjlapljjaaGreatDoor
namespace Go.Proofs.YtnfpjcjlapljjaaGreatDoor
open Go Go.RowKit

theorem loadCells_zero (a : Addr) : loadCellsFrom a 0 0 #[] = pure #[] := rfl
theorem storeCells_nil (a : Addr) : storeCells a [] = pure () := rfl
section
variable {P : Program} {w : World}
theorem run_append_base0 (A0 : Option Addr) (t ty e : TypeId) (i : TypeInfo) (ht : P.underlying t = some (.slice e)) (hi : P.info? e = some i) (A : Option Addr) (m c : Nat) (hm : 0 < m) (hb : m * i.bytes ≤ 140737488355328) :
    (Builtin.append_ #[t, t] ty #[.slice A0 0 0, .slice A m c]).run P w = (Builtin.append_ #[t, t] ty #[.slice none 0 0, .slice A m c]).run P w := by
  cases A0 with
  | none => rfl
  | some a =>
    have h0 : m ≠ 0 := by omega
    have hn : Builtin.nextslicecap m 0 = m := by unfold Builtin.nextslicecap; rw [if_pos (by omega)]
    have h1 : ¬ 281474976710656 < m * i.bytes := by omega
    simp [Builtin.append_, run_underlying ht, sizeOf, typeInfo, hi, Builtin.lenOf, Builtin.firstCells, h0, hn, h1, loadCells, loadCells_zero]
theorem run_append_zero (A0 : Option Addr) (t ty e : TypeId) (i : TypeInfo) (ht : P.underlying t = some (.slice e)) (hi : P.info? e = some i) (A : Option Addr) (c : Nat) :
    (Builtin.append_ #[t, t] ty #[.slice A0 0 0, .slice A 0 c]).run P w = .ok (.slice A0 0 0) w := by
  cases A0 <;> cases A <;> simp [Builtin.append_, run_underlying ht, sizeOf, typeInfo, hi, Builtin.lenOf, Builtin.firstCells, loadCells, loadCells_zero, storeCells_nil]

/-- A slice of the call's own: empty and without capacity, or a row. -/
def Own0 (w : World) (base : Nat) (e : TypeId) (k : Nat) (A : Option Addr) (n c : Nat) (xs : List Value) : Prop := (n = 0 ∧ c = 0 ∧ xs = []) ∨ (0 < n ∧ w.ownsRow base e k (.slice A n c) n xs)
theorem Own0.kept {w w' : World} {base : Nat} {e : TypeId} {k : Nat} {A : Option Addr} {n c : Nat} {xs : List Value} {row : Option Nat} (h : Own0 w base e k A n c xs) (hg : w.grownBy w' row) (hne : (Value.slice A n c).ownBlock = none ∨ (Value.slice A n c).ownBlock ≠ row) : Own0 w' base e k A n c xs := by
  rcases h with h | ⟨h0, h⟩
  · exact .inl h
  · exact .inr ⟨h0, h.kept hg hne⟩
theorem Own0.below {w w' : World} {base : Nat} {e : TypeId} {k : Nat} {A : Option Addr} {n c : Nat} {xs : List Value} (hb : Below w.heap.size w w') (h : Own0 w base e k A n c xs) : Own0 w' base e k A n c xs :=
  h.kept (row := none) ⟨hb.os, hb.tape, hb.output, hb.size, fun i hi _ => hb.block i hi⟩ (by cases hv : (Value.slice A n c).ownBlock <;> simp)
theorem Own0.alloc {w : World} {base : Nat} {e : TypeId} {k : Nat} {A : Option Addr} {n c : Nat} {xs : List Value} (h : Own0 w base e k A n c xs) (o : Obj) : Own0 (w.alloc o) base e k A n c xs := h.below (Ba (B0 w) o)
theorem Own0.drewN {w : World} {base : Nat} {e : TypeId} {k : Nat} {A : Option Addr} {n c : Nat} {xs : List Value} (h : Own0 w base e k A n c xs) (q : Nat) : Own0 (w.drewN q) base e k A n c xs := h
theorem Own0.drew {w : World} {base : Nat} {e : TypeId} {k : Nat} {A : Option Addr} {n c : Nat} {xs : List Value} (h : Own0 w base e k A n c xs) : Own0 w.drew base e k A n c xs := h
theorem own_more {w : World} {base base' : Nat} {e : TypeId} {k n : Nat} {v : Value} {xs : List Value} (h : w.ownsRow base e k v n xs) (hb : base' ≤ base) : w.ownsRow base' e k v n xs := by
  obtain ⟨h1, h2⟩ := h
  refine ⟨h1, ?_⟩
  rcases h2 with h2 | ⟨g, cap, cur, hv, hg, r⟩
  · exact .inl h2
  · exact .inr ⟨g, cap, cur, hv, by omega, r⟩
theorem Own0.more {w : World} {base base' : Nat} {e : TypeId} {k : Nat} {A : Option Addr} {n c : Nat} {xs : List Value} (h : Own0 w base e k A n c xs) (hb : base' ≤ base) : Own0 w base' e k A n c xs := by
  rcases h with h | ⟨h0, h⟩
  · exact .inl h
  · exact .inr ⟨h0, own_more h hb⟩
/-- A store into a block of another type. -/
theorem Own0.far {w : World} {base : Nat} {e t : TypeId} {k g : Nat} {A : Option Addr} {n c : Nat} {xs : List Value} {cs : Array Value} (hB : Blk w g t cs) (ht : e ≠ t) (h : Own0 w base e k A n c xs) (j : Nat) (u : Value) : Own0 (w.setCell ⟨g, j, none⟩ u) base e k A n c xs := by
  rcases h with h | ⟨h0, h⟩
  · exact .inl h
  · have hne := own_blk_ne h hB ht
    refine .inr ⟨h0, h.kept (row := some g) ⟨rfl, rfl, rfl, by simp [World.setCell], fun i hi hr => ?_⟩ (.inr hne)⟩
    exact Below.heap_setCell w _ u i (fun e => hr (by rw [e]))

/-- The copy of m elements lies in a block of its own. -/
theorem run_copy {t e : TypeId} {k bytes : Nat} (E : ElemN P t e k bytes) (hk : 0 < k) (ty : TypeId) (A0 : Option Addr) (B : Nat) (A : Option Addr) (m c : Nat) (news : List Value) (hr : Reads w B k A m news) (h1 : ∀ u ∈ news, u.oneCell' = true)
    (hm : m ≤ 1000000000) (hb : bytes ≤ 1000) :
    ∃ A' c' w', (Builtin.append_ #[t, t] ty #[.slice A0 0 0, .slice A m c]).run P w = .ok (.slice A' m c') w' ∧ Below w.heap.size w w' ∧ Own0 w' w.heap.size e k A' m c' news := by
  obtain ⟨ht, i, z, hi, hz, hsz, hby, hzs⟩ := E
  have hmb : m * bytes ≤ 1000000000 * 1000 := Nat.mul_le_mul hm hb
  rcases Nat.eq_zero_or_pos m with rfl | h0
  · exact ⟨A0, 0, w, run_append_zero A0 t ty e i ht hi A c, Below.refl _ _, .inl ⟨rfl, rfl, List.eq_nil_of_length_eq_zero (by simpa using hr.1)⟩⟩
  · obtain ⟨ad, rfl, _, hc⟩ := hr.2 h0
    obtain ⟨v', w', hrun, h2, h3, _, _⟩ := run_append_own_at (P := P) w w.heap.size t ty e i z k bytes ht hi hz hsz hby hzs hk (.slice none 0 0) 0 [] (World.ownsRow_nil _ _ _ _) ad m c news hr.1 hc h1
      (by unfold maxLen; omega) (by rw [Nat.zero_add]; omega) (Nat.le_refl _)
    rw [Nat.zero_add, List.nil_append] at h2
    have hv : ∃ A' c', v' = .slice A' m c' := by
      rcases h2.2 with ⟨rfl, _⟩ | ⟨g, cap, cur, rfl, _⟩
      · have := h2.1
        rcases h2.2 with ⟨_, h⟩ | ⟨g, cap, cur, h, _⟩
        · have hl := hr.1; rw [h] at hl; simp at hl; have := Nat.mul_pos h0 hk; omega
        · cases h
      · exact ⟨_, _, rfl⟩
    obtain ⟨A', c', rfl⟩ := hv
    refine ⟨A', c', w', (run_append_base0 A0 t ty e i ht hi (some ad) m c h0 (by rw [hby]; omega)).trans hrun, ?_, .inr ⟨h0, h2⟩⟩
    exact (Below.refl _ _).grown h3 (Nat.le_refl _) (fun b h => by simp [Value.ownBlock] at h)

variable {ops : Array Oper} {rest : List Oper} {o : Oper} {a : Act} {Q : Exit → Act → World → Prop}
theorem wp_copy {K : Act → World → Prop} {t e : TypeId} {k bytes : Nat} (E : ElemN P t e k bytes) (hk : 0 < k) (s x : Operand) (ho : o.op = .call { callee := .builtin .append, args := #[s, x], argTypes := #[t, t] })
    (A0 : Option Addr) (hs : a.eval s = .slice A0 0 0) (B : Nat) (A : Option Addr) (m c : Nat) (news : List Value) (hx : a.eval x = .slice A m c) (hr : Reads w B k A m news) (h1 : ∀ u ∈ news, u.oneCell' = true)
    (hm : m ≤ 1000000000) (hb : bytes ≤ 1000)
    (h : ∀ A' c' w', Below w.heap.size w w' → Own0 w' w.heap.size e k A' m c' news → K (a.put o.dst (.slice A' m c')) w') : o.wp P a w K Q := by
  obtain ⟨A', c', w', hrun, h2, h3⟩ := run_copy (w := w) E hk o.type A0 B A m c news hr h1 hm hb
  unfold Oper.wp execOp
  simp only [ho, resolve, invoke, builtin, Sem.run_bind, Sem.run_pure, Result.andThen_ok, List.map_toArray, List.map_cons, List.map_nil, hs, hx, hrun]
  exact h A' c' w' h2 h3
theorem wpList_copy {t e : TypeId} {k bytes : Nat} (E : ElemN P t e k bytes) (hk : 0 < k) (hgd : o.guard = none) (s x : Operand) (ho : o.op = .call { callee := .builtin .append, args := #[s, x], argTypes := #[t, t] })
    (A0 : Option Addr) (hs : a.eval s = .slice A0 0 0) (B : Nat) (A : Option Addr) (m c : Nat) (news : List Value) (hx : a.eval x = .slice A m c) (hr : Reads w B k A m news) (h1 : ∀ u ∈ news, u.oneCell' = true)
    (hm : m ≤ 1000000000) (hb : bytes ≤ 1000)
    (h : ∀ A' c' w', Below w.heap.size w w' → Own0 w' w.heap.size e k A' m c' news → wpList P ops Q rest (a.put o.dst (.slice A' m c')) w') : wpList P ops Q (o :: rest) a w :=
  wpList_plain hgd fun _ hK => wp_copy E hk s x ho A0 hs B A m c news hx hr h1 hm hb fun A' c' w' q1 q2 => hK _ _ (h A' c' w' q1 q2)
end

/-- A slice that reads as a list, as the cells it holds. -/
theorem Sl.cells {α : Type} {F : Nat → Prop} {k : Nat} {R : World → List Value → α → Prop} {w : World} {A : Option Addr} {n c B : Nat} {l : List α} (h : Sl F k R w (.slice A n c) l) (hF : ∀ b, F b → b < B) :
    ∃ cs : List (List Value), cs.length = l.length ∧ (∀ i (hi : i < l.length), ∃ x, cs[i]? = some x ∧ x.length = k ∧ R w x l[i]) ∧ Reads w B k A n cs.flatten := by
  obtain ⟨A', c', hv, hc, hl, hi⟩ := h
  injection hv with e1 e2 e3
  subst e1 e2 e3
  have hex : ∀ i, ∃ cs : List Value, ∀ (hi : i < l.length), ∃ ad, A = some ad ∧ F ad.block ∧ cs.length = k ∧ R w cs l[i] ∧ Flds w (ad.add (i * k)) cs := fun i => by
    by_cases hil : i < l.length
    · obtain ⟨ad, cs, r⟩ := hi i hil
      exact ⟨cs, fun _ => ⟨ad, r⟩⟩
    · exact ⟨[], fun h => absurd h hil⟩
  obtain ⟨f, hf⟩ := Classical.axiomOfChoice hex
  refine ⟨(List.range l.length).map f, by simp, fun i hi => ?_, ?_, fun hn => ?_⟩
  · obtain ⟨ad, _, _, h1, h2, _⟩ := hf i hi
    exact ⟨f i, by simp [hi], h1, h2⟩
  · have : ∀ n, n ≤ l.length → ((List.range n).map f).flatten.length = n * k := by
      intro n
      induction n with
      | zero => intro _; simp
      | succ n ih =>
        intro hn
        obtain ⟨ad, _, _, h1, _⟩ := hf n (by omega)
        rw [List.range_succ, List.map_append, List.flatten_append, List.length_append, ih (by omega)]
        simp [h1, Nat.succ_mul]
    exact this _ (Nat.le_refl _)
  · obtain ⟨ad, hA, hFa, _⟩ := hf 0 hn
    refine ⟨ad, hA, hF _ hFa, ?_⟩
    have : ∀ n, n ≤ l.length → ∀ j u, ((List.range n).map f).flatten[j]? = some u → w.cell? (ad.add j) = some u := by
      intro n
      induction n with
      | zero => intro _ j u h; simp at h
      | succ n ih =>
        intro hn j u h
        have hlen : ((List.range n).map f).flatten.length = n * k := by
          have : ∀ n, n ≤ l.length → ((List.range n).map f).flatten.length = n * k := by
            intro n
            induction n with
            | zero => intro _; simp
            | succ n ih =>
              intro hn
              obtain ⟨ad, _, _, h1, _⟩ := hf n (by omega)
              rw [List.range_succ, List.map_append, List.flatten_append, List.length_append, ih (by omega)]
              simp [h1, Nat.succ_mul]
          exact this n (by omega)
        rw [List.range_succ, List.map_append, List.flatten_append] at h
        rcases Nat.lt_or_ge j (n * k) with hlt | hge
        · rw [List.getElem?_append_left (by omega)] at h
          exact ih (by omega) j u h
        · rw [List.getElem?_append_right (by omega), hlen] at h
          obtain ⟨ad', hA', _, h1, _, h3⟩ := hf n (by omega)
          rw [hA] at hA'
          injection hA' with hA'
          subst hA'
          have := h3 (j - n * k) u (by simpa using h)
          rw [add_of_add] at this
          rwa [show n * k + (j - n * k) = j from by omega] at this
    exact this _ (Nat.le_refl _)
end Go.Proofs.YtnfpjcjlapljjaaGreatDoor
