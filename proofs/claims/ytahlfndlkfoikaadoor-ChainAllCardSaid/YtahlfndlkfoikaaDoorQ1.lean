/- Plain: chains of couplers: what begin, Follow, more, all, Least and Cut compute. Walks over coupler's statements: drawn, same. Words for chains in memory: rows of links and of chains whose parts lie in blocks of ints and contacts; an append to a full slice. Plain: the order of chains; all chains, in order. Walks over chain's statements: less, and the order of chains: slices.Compare, Compare. -/
import Derived.Test.YtahlfndlkfoikaaDoorKp
import Derived.Test.YtahlfndlkfoikaaDoorKa
import Derived.Laws.StructEq
import Derived.Test.YtahlfndlkfoikaaDoorKi
import Derived.Test.YtahlfndlkfoikaaDoorRegW
namespace Go.Proofs.YtahlfndlkfoikaaDoor
open Go Go.RowKit
namespace Cha
open Cou
/-- A chain with the contacts that it reaches. -/
abbrev Lk := List Int × List Ct
/-- A chain and where it ends. -/
abbrev Ch := List Int × Ct
/-- The last contact. -/
def lastF (l : List Ct) : Ct := l.getLastD (0, 0)
/-- The error of coupler i behind some, or 0. -/
def badF (a : Ac) (fst : Bool) (at_ : Ct) (out : List Ct) (i : Int) : Int :=
  if i < 0 ∨ (a.cps.length : Int) ≤ i then 11
  else if a.drawn.testBit i.toNat = false then 19
  else if fst = false ∧ thruF a i.toNat = false then 7
  else match stepF a i.toNat at_ with
    | none => 24
    | some t => if t ∈ out then 9 else 0
/-- Where coupler i takes a contact. -/
def toF (a : Ac) (at_ : Ct) (i : Int) : Ct := (stepF a i.toNat at_).getD (0, 0)
def folF (a : Ac) : Bool → Ct → List Ct → List Int → Int × List Ct
  | _, _, out, [] => (0, out)
  | fst, at_, out, i :: l => if badF a fst at_ out i = 0 then folF a false (toF a at_ i) (out ++ [toF a at_ i]) l else (badF a fst at_ out i, [])
/-- The contacts that couplers reach, and the error. -/
def followF (a : Ac) (key : Ct) (cs : List Int) : Int × List Ct := if cs = [] then (13, []) else folF a true key [] cs
theorem folF_bad (a : Ac) : ∀ (l : List Int) (f : Bool) (at_ : Ct) (out : List Ct), (folF a f at_ out l).1 ≠ 0 → (folF a f at_ out l).2 = []
  | [], _, _, _, h => absurd rfl h
  | i :: l, f, at_, out, h => by
    unfold folF at h ⊢
    split
    · rename_i q
      rw [if_pos q] at h
      exact folF_bad a l _ _ _ h
    · rfl
theorem folF_len (a : Ac) : ∀ (l : List Int) (f : Bool) (at_ : Ct) (out : List Ct), (folF a f at_ out l).1 = 0 → (folF a f at_ out l).2.length = out.length + l.length
  | [], _, _, _, _ => rfl
  | i :: l, f, at_, out, h => by
    unfold folF at h ⊢
    split
    · rename_i q
      rw [if_pos q] at h
      rw [folF_len a l _ _ _ h]
      simp
      omega
    · rename_i q
      rw [if_neg q] at h
      exact absurd h q
/-- One coupler more. -/
def oneMoreF (a : Ac) (x : Lk) (at_ : Ct) (i : Nat) : Option Lk :=
  if a.drawn.testBit i = true ∧ (x.1 = [] ∨ thruF a i = true) then
    match stepF a i at_ with
    | none => none
    | some t => if t ∈ x.2 then none else some (x.1 ++ [(i : Int)], x.2 ++ [t])
  else none
/-- The chains that are one coupler longer. -/
def moreF (a : Ac) (x : Lk) (at_ : Ct) : List Lk := (List.range a.cps.length).filterMap (oneMoreF a x at_)
/-- Those from coupler k on. -/
def moreD (a : Ac) (x : Lk) (at_ : Ct) (k : Nat) : List Lk := ((List.range a.cps.length).drop k).filterMap (oneMoreF a x at_)
theorem moreD_zero (a : Ac) (x : Lk) (at_ : Ct) : moreD a x at_ 0 = moreF a x at_ := rfl
theorem moreD_end (a : Ac) (x : Lk) (at_ : Ct) : moreD a x at_ a.cps.length = [] := by
  unfold moreD; rw [List.drop_eq_nil_of_le (by simp)]; rfl
theorem moreD_none {a : Ac} {x : Lk} {at_ : Ct} {k : Nat} (hk : k < a.cps.length) (h : oneMoreF a x at_ k = none) : moreD a x at_ k = moreD a x at_ (k + 1) := by
  unfold moreD
  rw [List.drop_eq_getElem_cons (by simpa using hk), List.getElem_range, List.filterMap_cons, h]
theorem moreD_some {a : Ac} {x y : Lk} {at_ : Ct} {k : Nat} (hk : k < a.cps.length) (h : oneMoreF a x at_ k = some y) : moreD a x at_ k = y :: moreD a x at_ (k + 1) := by
  unfold moreD
  rw [List.drop_eq_getElem_cons (by simpa using hk), List.getElem_range, List.filterMap_cons, h]
theorem moreF_len (a : Ac) (x : Lk) (at_ : Ct) : (moreF a x at_).length ≤ a.cps.length := by
  have := List.length_filterMap_le (oneMoreF a x at_) (List.range a.cps.length)
  simpa [moreF] using this
theorem oneMoreF_eq {a : Ac} {x y : Lk} {at_ : Ct} {i : Nat} (h : oneMoreF a x at_ i = some y) : ∃ t, a.drawn.testBit i = true ∧ (x.1 = [] ∨ thruF a i = true) ∧ stepF a i at_ = some t ∧ t ∉ x.2 ∧ y = (x.1 ++ [(i : Int)], x.2 ++ [t]) := by
  unfold oneMoreF at h
  split at h
  · rename_i q
    split at h
    · cases h
    · rename_i t ht
      split at h
      · cases h
      · rename_i hn
        injection h with h
        exact ⟨t, q.1, q.2, ht, hn, h.symm⟩
  · cases h
/-- The queue behind i of its own. -/
def queF (a : Ac) : Nat → Nat → List Lk → Option (List Lk)
  | 0, _, _ => none
  | f + 1, i, q => match q[i]? with
    | none => some q
    | some x => if 2000 < q.length then none else queF a f (i + 1) (q ++ moreF a x (lastF x.2))
/-- All chains, if they are not too many. -/
def allF (a : Ac) (key : Ct) : Option (List Ch) := match queF a 2002 0 (moreF a ([], []) key) with
  | none => none
  | some q => if q.length ≤ 2000 then some (q.map fun x => (x.1, lastF x.2)) else none
/-- The queue of Least: a chain is put into it if none ends where it ends. -/
def putF (Q : List Ch) (y : Lk) : List Ch := if (Q.map Prod.snd).contains (lastF y.2) then Q else Q ++ [(y.1, lastF y.2)]
/-- The link that Least hands on. -/
def dumF (x : Ch) : Lk := (x.1, List.replicate x.1.length (-1, 0))
def addF (a : Ac) (Q : List Ch) (x : List Int) (at_ : Ct) : List Ch := (moreF a (x, List.replicate x.length (-1, 0)) at_).foldl putF Q
def leastQ (a : Ac) (c : Ct) : Nat → Nat → List Ch → Option Ch
  | 0, _, _ => none
  | f + 1, i, Q => match Q[i]? with
    | none => none
    | some x => if x.2 = c then some x else leastQ a c f (i + 1) (addF a Q x.1 x.2)
def leastF (a : Ac) (key c : Ct) : Option Ch := leastQ a c 1025 0 (addF a [] [] key)
/-- Lists of couplers, in order: the first one without which a test fails. -/
def seekF (R : Nat → Bool) (on : List Nat) : Nat → Nat → Nat → Option (List Nat)
  | 0, _, wo => if R wo then none else some []
  | left + 1, from_, wo => (List.range (on.length + 1 - (from_ + (left + 1)))).findSome? fun j =>
      (seekF R on left (from_ + j + 1) (wo ||| 2 ^ (on.getD (from_ + j) 0))).map (on.getD (from_ + j) 0 :: ·)
end Cha
end Go.Proofs.YtahlfndlkfoikaaDoor
namespace Go.Proofs.YtahlfndlkfoikaaDoor
open Go Go.RowKit Go.Shelf
theorem bit_of (v p : Nat) : ((((v >>> p) &&& 1 : Nat) : Int) == 1) = v.testBit p := by
  rw [Nat.testBit_eq_decide_div_mod_eq, Nat.and_one_is_mod, Nat.shiftRight_eq_div_pow]
  by_cases h : v / 2 ^ p % 2 = 1
  · rw [h]; rfl
  · have : v / 2 ^ p % 2 = 0 := by omega
    rw [this]; rfl
theorem shr_of (v p : Nat) (h : p ≤ 64) : ((v : Nat) : Int) / 2 ^ p = ((v >>> p : Nat) : Int) := by
  have := Hit.shr_nat v p 64 h
  rw [Nat.min_eq_left h, Int.fdiv_eq_ediv_of_nonneg _ (Int.pow_nonneg (by decide))] at this
  exact this
theorem SlCt.open {F : Nat → Prop} {w : World} {v : Value} {l : List Cou.Ct} (h : SlCt F w v l) : ∃ A c, v = .slice A l.length c ∧ l.length ≤ c ∧ l.length ≤ 140737488355328 ∧
    ∀ i (hi : i < l.length), ∃ ad, A = some ad ∧ F ad.block ∧ Flds w (ad.add (i * 2)) [.int .i64 l[i].1, .int .i64 l[i].2] := by
  obtain ⟨A, c, hv, hc, hl, hi⟩ := h
  refine ⟨A, c, hv, hc, hl, fun i hil => ?_⟩
  obtain ⟨ad, cs, hA, hF, hk, hr, hcell⟩ := hi i hil
  unfold CtC at hr
  subst hr
  exact ⟨ad, hA, hF, hcell⟩
theorem SlCt.keep {F : Nat → Prop} {w w' : World} {v : Value} {l : List Cou.Ct} (h : SlCt F w v l) (ha : Agree F w w') : SlCt F w' v l := Sl.keep h ha fun _ _ hr => hr
/-- Lists that agree up to k. -/
def Upto (l m : List Cou.Ct) (k : Nat) : Prop := ∀ i, i < k → l[i]? = m[i]?
theorem Upto.all {l m : List Cou.Ct} (h : Upto l m l.length) (hl : l.length = m.length) : l = m := by
  refine List.ext_getElem? fun i => ?_
  by_cases hi : i < l.length
  · exact h i hi
  · rw [List.getElem?_eq_none (by omega), List.getElem?_eq_none (by omega)]
end Go.Proofs.YtahlfndlkfoikaaDoor
namespace Go.Proofs.YtahlfndlkfoikaaDoor
open Go Go.RowKit
section
variable {P : Program} {w : World}
/-- 'append(x[:n:n], y)': the row has a block of its own. -/
theorem run_append_full {t e : TypeId} {k bytes : Nat} (E : ElemN P t e k bytes) (hk : 0 < k) (ty : TypeId) (A : Option Addr) (n B : Nat) (xs : List Value) (hr : Reads w B k A n xs) (g : Nat) (news : List Value) (hl : news.length = k) (hnews : Flds w ⟨g, 0, none⟩ news) (h1 : ∀ u ∈ news, u.oneCell' = true)
    (hn : n + 1 ≤ 1000000000) (hb : bytes ≤ 1000) :
    ∃ c' w', (Builtin.append_ #[t, t] ty #[.slice A n n, .slice (some ⟨g, 0, none⟩) 1 1]).run P w = .ok (.slice (some ⟨w.heap.size, 0, none⟩) (n + 1) c') w' ∧ Below w.heap.size w w' ∧ w'.ownsRow w.heap.size e k (.slice (some ⟨w.heap.size, 0, none⟩) (n + 1) c') (n + 1) (xs ++ news) := by
  obtain ⟨ht, i, z, hi, hz, hsz, hby, hzs⟩ := E
  have hmb : (n + 1) * bytes ≤ 1000000000 * 1000 := Nat.mul_le_mul hn hb
  cases A with
  | none =>
    have hn0 : n = 0 := by
      rcases Nat.eq_zero_or_pos n with h | h
      · exact h
      · obtain ⟨ad, h, _⟩ := hr.2 h; cases h
    subst hn0
    have hxs : xs = [] := List.eq_nil_of_length_eq_zero (by simpa using hr.1)
    subst hxs
    obtain ⟨v', w', hrun, h2, h3, _, h5⟩ := run_append_own_at (P := P) w w.heap.size t ty e i z k bytes ht hi hz hsz hby hzs hk (.slice none 0 0) 0 [] (World.ownsRow_nil _ _ _ _) ⟨g, 0, none⟩ 1 1 news (by omega) hnews h1
      (by unfold maxLen; omega) (by omega) (Nat.le_refl _)
    obtain ⟨g', cap, rfl⟩ := own_lit h2
    have hg : g' = w.heap.size := by
      rcases h5 with h5 | h5
      · simp [Value.ownBlock] at h5
      · simpa [Value.ownBlock] using h5
    subst hg
    exact ⟨cap, w', hrun, (Below.refl _ _).grown h3 (Nat.le_refl _) (fun b h => by simp [Value.ownBlock] at h), h2⟩
  | some b =>
    have holds : ∀ j u, xs[j]? = some u → w.cell? (b.add j) = some u := by
      rcases Nat.eq_zero_or_pos n with h | h
      · subst h
        have hxs : xs = [] := List.eq_nil_of_length_eq_zero (by simpa using hr.1)
        subst hxs
        intro j u hu; simp at hu
      · obtain ⟨ad, h, _, hc⟩ := hr.2 h
        injection h with h
        subst h
        exact hc
    subst hsz
    subst hby
    have hrun := run_append_grow (P := P) w t ty e i z ht hi hz b n n xs hr.1 holds ⟨g, 0, none⟩ 1 1 news (by omega) hnews (by omega) (by omega) (growslice_fits (by omega) (by omega))
    refine ⟨_, _, hrun, (B0 w).drew.alloc (by simp) _, ⟨by rw [List.length_append, hr.1, hl, Nat.succ_mul], .inr ⟨w.heap.size, _, _, rfl, Nat.le_refl _, heap_alloc_new w.drew _, grownCap_ge w (n + 1) n e, grownCap_le_maxLen w (n + 1) n e (by unfold maxLen; omega), ?_, ?_⟩⟩⟩
    · have hge := grownCap_ge w (n + 1) n e
      simp only [Array.size_append, List.size_toArray, size_zeroCells, hzs, hr.1, hl]
      rw [← Nat.succ_mul, ← Nat.add_mul]
      congr 1
      omega
    · simp only [Array.toList_append, List.append_assoc]
      rw [← List.append_assoc, show (n + 1) * i.size = (xs ++ news).length by rw [List.length_append, hr.1, hl, Nat.succ_mul]]
      exact List.take_left
end
/-- A block of ints or of contacts. -/
def IsC (w : World) (b : Nat) : Prop := ∃ cs, Blk w b 3 cs ∨ Blk w b 36 cs
section
variable {w w' : World} {b : Nat} {row : Option Nat}
theorem IsC.lt (h : IsC w b) : b < w.heap.size := by
  obtain ⟨cs, h | h⟩ := h
  · exact h.lt
  · exact h.lt
theorem IsC.grown (h : IsC w b) (hg : w.grownBy w' row) (hr : some b ≠ row) : IsC w' b := by
  obtain ⟨cs, h | h⟩ := h
  · exact ⟨cs, .inl (h.grown hg hr)⟩
  · exact ⟨cs, .inr (h.grown hg hr)⟩
theorem IsC.below (h : IsC w b) (hb : Below w.heap.size w w') : IsC w' b := h.grown (only_of_below hb none) (by simp)
end
/-- The cells of a link; of a chain. -/
def LinkC (w : World) (cs : List Value) (x : Cha.Lk) : Prop := ∃ u v, cs = [u, v] ∧ SlI (IsC w) w u x.1 ∧ SlCt (IsC w) w v x.2
def ChC (w : World) (cs : List Value) (x : Cha.Ch) : Prop := ∃ u, cs = [u, .int .i64 x.2.1, .int .i64 x.2.2] ∧ SlI (IsC w) w u x.1
section
variable {w w' : World} {row : Option Nat}
theorem LinkC.grown {cs : List Value} {x : Cha.Lk} (h : LinkC w cs x) (hg : w.grownBy w' row) (hr : ∀ b, IsC w b → some b ≠ row) : LinkC w' cs x := by
  obtain ⟨u, v, e, h1, h2⟩ := h
  have hA : Agree (IsC w) w w' := Agree.grown hg fun b hb => ⟨hb.lt, hr b hb⟩
  exact ⟨u, v, e, (SlI.keep h1 hA).mono fun b hb => hb.grown hg (hr b hb), (SlCt.keep h2 hA).mono fun b hb => hb.grown hg (hr b hb)⟩
theorem LinkC.below {cs : List Value} {x : Cha.Lk} (h : LinkC w cs x) (hb : Below w.heap.size w w') : LinkC w' cs x := h.grown (only_of_below hb none) (by simp)
theorem ChC.grown {cs : List Value} {x : Cha.Ch} (h : ChC w cs x) (hg : w.grownBy w' row) (hr : ∀ b, IsC w b → some b ≠ row) : ChC w' cs x := by
  obtain ⟨u, e, h1⟩ := h
  have hA : Agree (IsC w) w w' := Agree.grown hg fun b hb => ⟨hb.lt, hr b hb⟩
  exact ⟨u, e, (SlI.keep h1 hA).mono fun b hb => hb.grown hg (hr b hb)⟩
theorem ChC.below {cs : List Value} {x : Cha.Ch} (h : ChC w cs x) (hb : Below w.heap.size w w') : ChC w' cs x := h.grown (only_of_below hb none) (by simp)
/-- A row of another type is no such block. -/
theorem isC_own {base : Nat} {e : TypeId} {k n : Nat} {v : Value} {xs : List Value} (h : w.ownsRow base e k v n xs) (h1 : e ≠ 3) (h2 : e ≠ 36) : ∀ b, IsC w b → some b ≠ v.ownBlock := by
  rintro b ⟨cs, hb | hb⟩ he
  · exact own_blk_ne h hb h1 he.symm
  · exact own_blk_ne h hb h2 he.symm
theorem isC_of_own {base : Nat} {e : TypeId} {k n : Nat} {g m c : Nat} {xs : List Value} (h : w.ownsRow base e k (.slice (some ⟨g, 0, none⟩) m c) n xs) (he : e = 3 ∨ e = 36) : IsC w g := by
  rcases h.2 with ⟨q, _⟩ | ⟨g', cap, cur, q, _, hh, _⟩
  · cases q
  · injection q with q
    injection q with q
    injection q with q
    subst q
    rcases he with rfl | rfl
    · exact ⟨cur, .inl hh⟩
    · exact ⟨cur, .inr hh⟩
end
/-- A row of links, of chains. -/
abbrev OwnLk (base : Nat) (w : World) (v : Value) (q : List Cha.Lk) : Prop := OwnL base 109 2 LinkC w v q
abbrev OwnCh (base : Nat) (w : World) (v : Value) (q : List Cha.Ch) : Prop := OwnL base 56 3 ChC w v q
section
variable {w w' : World} {base : Nat} {v : Value}
theorem OwnLk.below {q : List Cha.Lk} (h : OwnLk base w v q) (hb : Below w.heap.size w w') : OwnLk base w' v q :=
  OwnL.keep h rfl (fun _ hx => hx.kept (row := none) (only_of_below hb none) (by cases hv : v.ownBlock <;> simp)) fun _ _ hr => hr.below hb
theorem OwnCh.below {q : List Cha.Ch} (h : OwnCh base w v q) (hb : Below w.heap.size w w') : OwnCh base w' v q :=
  OwnL.keep h rfl (fun _ hx => hx.kept (row := none) (only_of_below hb none) (by cases hv : v.ownBlock <;> simp)) fun _ _ hr => hr.below hb
end
theorem OwnLk.more {base base' : Nat} {w : World} {v : Value} {q : List Cha.Lk} (h : OwnLk base w v q) (hb : base' ≤ base) : OwnLk base' w v q := by
  obtain ⟨cs, h1, h2, h3⟩ := h
  exact ⟨cs, h1, h2, own_more h3 hb⟩
theorem OwnCh.more {base base' : Nat} {w : World} {v : Value} {q : List Cha.Ch} (h : OwnCh base w v q) (hb : base' ≤ base) : OwnCh base' w v q := by
  obtain ⟨cs, h1, h2, h3⟩ := h
  exact ⟨cs, h1, h2, own_more h3 hb⟩
theorem infoLk : (Tryd.prog.info? 109).map (fun i => (i.zero, i.size, i.bytes)) = some (some (.agg #[.slice none 0 0, .slice none 0 0]), 2, 48) := by kernel_rfl
theorem elemLk : ElemN Tryd.prog 105 109 2 48 := ⟨Tryd.underlying105, by
  obtain ⟨i, hi, hz, hs, hb⟩ := info_parts infoLk
  exact ⟨i, _, hi, hz, hs, hb, rfl⟩⟩
theorem infoCh : (Tryd.prog.info? 56).map (fun i => (i.zero, i.size, i.bytes)) = some (some (.agg #[.slice none 0 0, .int .i64 0, .int .i64 0]), 3, 40) := by kernel_rfl
theorem elemCh : ElemN Tryd.prog 67 56 3 40 := ⟨Tryd.underlying67, by
  obtain ⟨i, hi, hz, hs, hb⟩ := info_parts infoCh
  exact ⟨i, _, hi, hz, hs, hb, rfl⟩⟩
theorem infoIn : (Tryd.prog.info? 3).map (fun i => (i.zero, i.size, i.bytes)) = some (some (.int .i64 0), 1, 8) := by kernel_rfl
theorem elemIn : ElemN Tryd.prog 27 3 1 8 := ⟨Tryd.underlying27, by
  obtain ⟨i, hi, hz, hs, hb⟩ := info_parts infoIn
  exact ⟨i, _, hi, hz, hs, hb, rfl⟩⟩
/-- The cells of ints, of contacts. -/
def inCs (l : List Int) : List Value := l.map (Value.int .i64)
def ctCsL : List Cou.Ct → List Value
  | [] => []
  | c :: l => .int .i64 c.1 :: .int .i64 c.2 :: ctCsL l
theorem ctCsL_app : ∀ (l m : List Cou.Ct), ctCsL (l ++ m) = ctCsL l ++ ctCsL m
  | [], _ => rfl
  | c :: l, m => by simp [ctCsL, ctCsL_app l m]
theorem flat_in : ∀ (cs : List (List Value)) (l : List Int), cs.length = l.length → (∀ i (hi : i < l.length), ∃ x, cs[i]? = some x ∧ x = [.int .i64 l[i]]) → cs.flatten = inCs l
  | [], [], _, _ => rfl
  | [], _ :: _, h, _ => by cases h
  | _ :: _, [], h, _ => by cases h
  | c :: cs, x :: l, h, hr => by
    obtain ⟨y, h1, h2⟩ := hr 0 (by simp)
    injection h1 with h1
    subst h1
    have := flat_in cs l (by simpa using h) fun i hi => by
      obtain ⟨y, q1, q2⟩ := hr (i + 1) (by simpa using hi)
      exact ⟨y, by simpa using q1, by simpa using q2⟩
    simp [List.flatten_cons, this, h2, inCs]
theorem flat_ct : ∀ (cs : List (List Value)) (l : List Cou.Ct), cs.length = l.length → (∀ i (hi : i < l.length), ∃ x, cs[i]? = some x ∧ x = [.int .i64 l[i].1, .int .i64 l[i].2]) → cs.flatten = ctCsL l
  | [], [], _, _ => rfl
  | [], _ :: _, h, _ => by cases h
  | _ :: _, [], h, _ => by cases h
  | c :: cs, x :: l, h, hr => by
    obtain ⟨y, h1, h2⟩ := hr 0 (by simp)
    injection h1 with h1
    subst h1
    have := flat_ct cs l (by simpa using h) fun i hi => by
      obtain ⟨y, q1, q2⟩ := hr (i + 1) (by simpa using hi)
      exact ⟨y, by simpa using q1, by simpa using q2⟩
    simp [List.flatten_cons, this, h2, ctCsL]
theorem SlI.reads {F : Nat → Prop} {w : World} {A : Option Addr} {n c B : Nat} {l : List Int} (h : SlI F w (.slice A n c) l) (hF : ∀ b, F b → b < B) : Reads w B 1 A n (inCs l) := by
  obtain ⟨cs, h1, h2, h3⟩ := Sl.cells h hF
  rwa [flat_in cs l h1 fun i hi => by obtain ⟨x, q1, _, q3⟩ := h2 i hi; exact ⟨x, q1, q3⟩] at h3
theorem SlCt.reads {F : Nat → Prop} {w : World} {A : Option Addr} {n c B : Nat} {l : List Cou.Ct} (h : SlCt F w (.slice A n c) l) (hF : ∀ b, F b → b < B) : Reads w B 2 A n (ctCsL l) := by
  obtain ⟨cs, h1, h2, h3⟩ := Sl.cells h hF
  rwa [flat_ct cs l h1 fun i hi => by obtain ⟨x, q1, _, q3⟩ := h2 i hi; exact ⟨x, q1, q3⟩] at h3
/-- A row of one's own that has the cells of ints, of contacts, reads as these. -/
theorem slI_own {w : World} {base : Nat} {v : Value} {l : List Int} (h : w.ownsRow base 3 1 v l.length (inCs l)) (hl : l.length ≤ 140737488355328) : SlI (IsC w) w v l := by
  refine Sl.of_own (cs := l.map fun x => [.int .i64 x]) h rfl hl ?_ (by simp) (fun i hi => ⟨[.int .i64 l[i]], by simp [hi], rfl, rfl⟩) fun b _ _ hv => ?_
  · clear h hl
    induction l with
    | nil => rfl
    | cons x l ih => simpa [inCs] using ih
  · rcases h.2 with ⟨q, _⟩ | ⟨g, cap, cur, q, _, hh, _⟩
    · rw [q] at hv; simp [Value.ownBlock] at hv
    · rw [q] at hv
      have : g = b := by simpa [Value.ownBlock] using hv
      subst this
      exact ⟨cur, .inl hh⟩
theorem slCt_own {w : World} {base : Nat} {v : Value} {l : List Cou.Ct} (h : w.ownsRow base 36 2 v l.length (ctCsL l)) (hl : l.length ≤ 140737488355328) : SlCt (IsC w) w v l := by
  refine Sl.of_own (cs := l.map fun x => [.int .i64 x.1, .int .i64 x.2]) h rfl hl ?_ (by simp) (fun i hi => ⟨[.int .i64 l[i].1, .int .i64 l[i].2], by simp [hi], rfl, rfl⟩) fun b _ _ hv => ?_
  · clear h hl
    induction l with
    | nil => rfl
    | cons x l ih => simpa [ctCsL] using ih
  · rcases h.2 with ⟨q, _⟩ | ⟨g, cap, cur, q, _, hh, _⟩
    · rw [q] at hv; simp [Value.ownBlock] at hv
    · rw [q] at hv
      have : g = b := by simpa [Value.ownBlock] using hv
      subst this
      exact ⟨cur, .inr hh⟩
theorem AcAt.all {F : Nat → Prop} {w : World} {vd vc : Value} {a : Cou.Ac} (h : AcAt F w vd vc a) : AcAt (fun b => b < w.heap.size) w vd vc a := ⟨fun _ h => h, h.dv.mono h.inW, h.cp.mono h.inW⟩
theorem own_bel {base : Nat} {w w' : World} {v : Value} {l : List Cou.Ct} (h : OwnL base 36 2 CtC w v l) (hb : Below w.heap.size w w') : OwnL base 36 2 CtC w' v l :=
  OwnL.keep h rfl (fun _ hx => hx.kept (row := none) (only_of_below hb none) (by cases hv : v.ownBlock <;> simp)) fun _ _ hr => hr
theorem own_far {base : Nat} {w : World} {v : Value} {l : List Cou.Ct} (h : OwnL base 36 2 CtC w v l) {p : Addr} {u : Value} (hp : p.block < base) : OwnL base 36 2 CtC (w.setCell p u) v l := by
  have hlt := h.lt
  refine OwnL.keep h rfl (fun _ hx => hx.kept (row := some p.block) (only_setCell (World.grownBy.refl w _) (.inl rfl) u) ?_) fun _ _ hr => hr
  cases hv : v.ownBlock with
  | none => exact .inl rfl
  | some b =>
    refine .inr fun e => ?_
    have := (hlt b hv).1
    injection e with e
    omega
/-- A row of one contact. -/
theorem slCt_one (W : World) (c : Cou.Ct) : SlCt (fun b => b < (W.alloc (.cells #[.int .i64 c.1, .int .i64 c.2] 36)).heap.size) (W.alloc (.cells #[.int .i64 c.1, .int .i64 c.2] 36)) (.slice (some ⟨W.heap.size, 0, none⟩) 1 1) [c] := by
  refine ⟨some ⟨W.heap.size, 0, none⟩, 1, rfl, by simp, by simp, fun i hi => ?_⟩
  have hi0 : i = 0 := by simpa using hi
  subst hi0
  exact ⟨⟨W.heap.size, 0, none⟩, [.int .i64 c.1, .int .i64 c.2], rfl, by simp, rfl, rfl, by simpa [Addr.add] using Flds.new W [.int .i64 c.1, .int .i64 c.2] 36⟩
theorem SlCt.bnd3 {F : Nat → Prop} {w : World} {v : Value} {l : List Cou.Ct} (h : SlCt F w v l) : SlCt (fun b => b < w.heap.size) w v l := by
  obtain ⟨A, c, hv, hc, hl, hat⟩ := h
  refine ⟨A, c, hv, hc, hl, fun i hi => ?_⟩
  obtain ⟨ad, cs, e, hf, hk, hr, hfl⟩ := hat i hi
  refine ⟨ad, cs, e, ?_, hk, hr, hfl⟩
  have := World.block_lt_of_cell? _ _ (hfl 0 (cs[0]'(by omega)) (List.getElem?_eq_getElem _))
  rwa [block_of_add, block_of_add] at this
end Go.Proofs.YtahlfndlkfoikaaDoor
namespace Go.Proofs.YtahlfndlkfoikaaDoor
open Go Go.RowKit
namespace Cha
open Cou
def lexF : List Int → List Int → Bool
  | x :: a, y :: b => if x = y then lexF a b else decide (x < y)
  | _, _ => false
/-- Does a list of couplers come before another one? -/
def lessF (a b : List Int) : Bool := if a.length = b.length then lexF a b else decide (a.length < b.length)
theorem lexF_irrefl : ∀ a : List Int, lexF a a = false
  | [] => rfl
  | x :: a => by rw [lexF, if_pos rfl]; exact lexF_irrefl a
theorem lexF_trans : ∀ a b c : List Int, lexF a b = true → lexF b c = true → lexF a c = true
  | [], _, _, h, _ => by cases h
  | _ :: _, [], _, h, _ => by cases h
  | _ :: _, _ :: _, [], _, h => by cases h
  | x :: a, y :: b, z :: c, h1, h2 => by
    rw [lexF] at h1 h2 ⊢
    split at h1
    · rename_i e
      subst e
      split at h2
      · rename_i e
        rw [if_pos e]
        exact lexF_trans a b c h1 h2
      · rename_i e
        rw [if_neg e]; exact h2
    · rename_i e
      have h1 := of_decide_eq_true h1
      split at h2
      · rename_i e2
        subst e2
        rw [if_neg e]; exact decide_eq_true h1
      · have h2 := of_decide_eq_true h2
        rw [if_neg (by omega)]
        exact decide_eq_true (by omega)
theorem lexF_tri : ∀ a b : List Int, a.length = b.length → lexF a b = true ∨ a = b ∨ lexF b a = true
  | [], [], _ => .inr (.inl rfl)
  | [], _ :: _, h => by cases h
  | _ :: _, [], h => by cases h
  | x :: a, y :: b, h => by
    rw [lexF, lexF]
    by_cases e : x = y
    · subst e
      rw [if_pos rfl, if_pos rfl]
      rcases lexF_tri a b (by simpa using h) with q | q | q
      · exact .inl q
      · exact .inr (.inl (by rw [q]))
      · exact .inr (.inr q)
    · rw [if_neg e, if_neg (fun h => e h.symm)]
      by_cases l : x < y
      · exact .inl (decide_eq_true l)
      · exact .inr (.inr (decide_eq_true (by omega)))
theorem lexF_snoc : ∀ (a b : List Int) (x y : Int), a.length = b.length → lexF (a ++ [x]) (b ++ [y]) = if a = b then decide (x < y) else lexF a b
  | [], [], x, y, _ => by
    rw [if_pos rfl, List.nil_append, List.nil_append, lexF]
    by_cases e : x = y
    · subst e; rw [if_pos rfl, decide_eq_false (by omega)]; rfl
    · rw [if_neg e]
  | [], _ :: _, _, _, h => by cases h
  | _ :: _, [], _, _, h => by cases h
  | u :: a, v :: b, x, y, h => by
    rw [List.cons_append, List.cons_append, lexF, lexF, lexF_snoc a b x y (by simpa using h)]
    by_cases e : u = v
    · subst e
      simp only [if_true, List.cons.injEq, true_and]
    · rw [if_neg e, if_neg e, if_neg (fun h => e (List.cons.inj h).1)]
theorem lessF_irrefl (a : List Int) : lessF a a = false := by unfold lessF; rw [if_pos rfl]; exact lexF_irrefl a
theorem lessF_trans {a b c : List Int} (h1 : lessF a b = true) (h2 : lessF b c = true) : lessF a c = true := by
  unfold lessF at *
  split at h1 <;> split at h2 <;> rename_i e1 e2
  · rw [if_pos (e1.trans e2)]; exact lexF_trans a b c h1 h2
  · have := of_decide_eq_true h2
    rw [if_neg (by omega)]; exact decide_eq_true (by omega)
  · have := of_decide_eq_true h1
    rw [if_neg (by omega)]; exact decide_eq_true (by omega)
  · have := of_decide_eq_true h1
    have := of_decide_eq_true h2
    rw [if_neg (by omega)]; exact decide_eq_true (by omega)
theorem lessF_tri (a b : List Int) : lessF a b = true ∨ a = b ∨ lessF b a = true := by
  unfold lessF
  by_cases e : a.length = b.length
  · rw [if_pos e, if_pos e.symm]; exact lexF_tri a b e
  · rw [if_neg e, if_neg (fun h => e h.symm)]
    by_cases l : a.length < b.length
    · exact .inl (decide_eq_true l)
    · exact .inr (.inr (decide_eq_true (by omega)))
theorem lessF_asymm {a b : List Int} (h1 : lessF a b = true) : lessF b a = false := by
  cases h2 : lessF b a with
  | false => rfl
  | true => have := lessF_trans h1 h2; rw [lessF_irrefl] at this; cases this
theorem lessF_len {a b : List Int} (h : a.length < b.length) : lessF a b = true := by
  unfold lessF; rw [if_neg (by omega)]; exact decide_eq_true h
theorem lessF_snoc {a b : List Int} (h : lessF a b = true) (x y : Int) : lessF (a ++ [x]) (b ++ [y]) = true := by
  unfold lessF at *
  rw [List.length_append, List.length_append]
  split at h
  · rename_i e
    rw [if_pos (by simp [e]), lexF_snoc a b x y e, if_neg (fun e2 => by subst e2; rw [lexF_irrefl] at h; cases h)]
    exact h
  · rename_i e
    have := of_decide_eq_true h
    rw [if_neg (by simp; omega)]; exact decide_eq_true (by simp; omega)
theorem lessF_same (a : List Int) {x y : Int} (h : x < y) : lessF (a ++ [x]) (a ++ [y]) = true := by
  unfold lessF
  rw [if_pos (by simp), lexF_snoc a a x y rfl, if_pos rfl]
  exact decide_eq_true h
/-- A chain of a key, and the contacts that it reaches. -/
inductive IsCh (a : Ac) (key : Ct) : List Int → List Ct → Prop
  | one {i : Nat} {t : Ct} : a.drawn.testBit i = true → stepF a i key = some t → IsCh a key [(i : Int)] [t]
  | snoc {cs : List Int} {ts : List Ct} {i : Nat} {t : Ct} : IsCh a key cs ts → a.drawn.testBit i = true → thruF a i = true → stepF a i (lastF ts) = some t → t ∉ ts → IsCh a key (cs ++ [(i : Int)]) (ts ++ [t])
theorem stepF_lt {a : Ac} {i : Nat} {c t : Ct} (h : stepF a i c = some t) : i < a.cps.length := by
  unfold stepF at h
  cases hx : a.cps[i]? with
  | none => rw [hx] at h; cases h
  | some x => exact (List.getElem?_eq_some_iff.1 hx).1
theorem oneMoreF_of {a : Ac} {x : Lk} {at_ t : Ct} {i : Nat} (h1 : a.drawn.testBit i = true) (h2 : x.1 = [] ∨ thruF a i = true) (h3 : stepF a i at_ = some t) (h4 : t ∉ x.2) : oneMoreF a x at_ i = some (x.1 ++ [(i : Int)], x.2 ++ [t]) := by
  unfold oneMoreF
  rw [if_pos ⟨h1, h2⟩, h3]
  simp only
  rw [if_neg h4]
theorem moreF_mem {a : Ac} {x y : Lk} {at_ : Ct} : y ∈ moreF a x at_ ↔ ∃ i t, a.drawn.testBit i = true ∧ (x.1 = [] ∨ thruF a i = true) ∧ stepF a i at_ = some t ∧ t ∉ x.2 ∧ y = (x.1 ++ [(i : Int)], x.2 ++ [t]) := by
  unfold moreF
  rw [List.mem_filterMap]
  constructor
  · rintro ⟨i, _, h⟩
    exact ⟨i, oneMoreF_eq h⟩
  · rintro ⟨i, t, h1, h2, h3, h4, rfl⟩
    exact ⟨i, List.mem_range.2 (stepF_lt h3), oneMoreF_of h1 h2 h3 h4⟩
/-- Chains in order. -/
abbrev SrtL (q : List Lk) : Prop := q.Pairwise fun x y => lessF x.1 y.1 = true
theorem moreF_srt (a : Ac) (x : Lk) (at_ : Ct) : SrtL (moreF a x at_) := by
  unfold moreF SrtL
  rw [List.pairwise_filterMap]
  refine List.Pairwise.imp ?_ (List.pairwise_lt_range (n := a.cps.length))
  intro i j hij y hy z hz
  obtain ⟨_, _, _, _, _, rfl⟩ := oneMoreF_eq hy
  obtain ⟨_, _, _, _, _, rfl⟩ := oneMoreF_eq hz
  exact lessF_same _ (by omega)
def extF (a : Ac) (x : Lk) : List Lk := moreF a x (lastF x.2)
def begF (a : Ac) (key : Ct) : List Lk := moreF a ([], []) key
/-- The queue behind i of its own. -/
structure QI (a : Ac) (key : Ct) (i : Nat) (q : List Lk) : Prop where
  eq : q = begF a key ++ (q.take i).flatMap (extF a)
  srt : SrtL q
  le : i ≤ q.length
theorem begF_mem {a : Ac} {key : Ct} {y : Lk} (h : y ∈ begF a key) : IsCh a key y.1 y.2 ∧ y.1.length = 1 := by
  obtain ⟨i, t, h1, _, h3, _, rfl⟩ := moreF_mem.1 h
  exact ⟨.one h1 h3, rfl⟩
theorem IsCh.ne {a : Ac} {key : Ct} {cs : List Int} {ts : List Ct} (h : IsCh a key cs ts) : cs ≠ [] := by
  cases h <;> simp
theorem IsCh.len {a : Ac} {key : Ct} {cs : List Int} {ts : List Ct} (h : IsCh a key cs ts) : cs.length = ts.length := by
  induction h with
  | one _ _ => rfl
  | snoc _ _ _ _ _ ih => simp [ih]
theorem extF_mem {a : Ac} {key : Ct} {x y : Lk} (hx : IsCh a key x.1 x.2) (h : y ∈ extF a x) : IsCh a key y.1 y.2 ∧ ∃ c : Int, y.1 = x.1 ++ [c] := by
  obtain ⟨i, t, h1, h2, h3, h4, rfl⟩ := moreF_mem.1 h
  rcases h2 with h2 | h2
  · exact absurd h2 hx.ne
  · exact ⟨.snoc hx h1 h2 h3 h4, _, rfl⟩
theorem QI.ch {a : Ac} {key : Ct} : ∀ {i : Nat} {q : List Lk}, QI a key i q → ∀ y ∈ q, IsCh a key y.1 y.2 := by
  intro i q h
  -- by the place of y in q
  have hk : ∀ n, ∀ k, k ≤ n → ∀ hk : k < q.length, IsCh a key q[k].1 q[k].2 := by
    intro n
    induction n with
    | zero =>
      intro k hk0 hkq
      have hm : q[k] ∈ begF a key ++ (q.take i).flatMap (extF a) := h.eq ▸ List.getElem_mem hkq
      rcases List.mem_append.1 hm with e | e
      · exact (begF_mem e).1
      · exfalso
        obtain ⟨x, hx, hy⟩ := List.mem_flatMap.1 e
        have hxq : x ∈ q := List.mem_of_mem_take hx
        obtain ⟨i2, t2, _, _, _, _, e2⟩ := moreF_mem.1 hy
        have hl : lessF x.1 q[k].1 = true := by rw [e2]; exact lessF_len (by simp)
        obtain ⟨j, hj, rfl⟩ := List.getElem_of_mem hxq
        have hk00 : k = 0 := by omega
        subst hk00
        rcases Nat.eq_zero_or_pos j with rfl | hj0
        · rw [lessF_irrefl] at hl; cases hl
        · have := List.pairwise_iff_getElem.1 h.srt 0 j hkq hj hj0
          rw [lessF_asymm hl] at this; cases this
    | succ n ih =>
      intro k hkn hkq
      have hm : q[k] ∈ begF a key ++ (q.take i).flatMap (extF a) := h.eq ▸ List.getElem_mem hkq
      rcases List.mem_append.1 hm with e | e
      · exact (begF_mem e).1
      · obtain ⟨x, hx, hy⟩ := List.mem_flatMap.1 e
        have hxq : x ∈ q := List.mem_of_mem_take hx
        obtain ⟨i2, t2, _, _, _, _, e2⟩ := moreF_mem.1 hy
        have hl : lessF x.1 q[k].1 = true := by rw [e2]; exact lessF_len (by simp)
        obtain ⟨j, hj, rfl⟩ := List.getElem_of_mem hxq
        have hjk : j < k := by
          rcases Nat.lt_trichotomy j k with q1 | q1 | q1
          · exact q1
          · subst q1; rw [lessF_irrefl] at hl; cases hl
          · have := List.pairwise_iff_getElem.1 h.srt k j hkq hj q1
            rw [lessF_asymm hl] at this; cases this
        exact (extF_mem (ih j (by omega) hj) hy).1
  intro y hy
  obtain ⟨k, hkq, rfl⟩ := List.getElem_of_mem hy
  exact hk k k (Nat.le_refl _) hkq
theorem QI.start (a : Ac) (key : Ct) : QI a key 0 (begF a key) := ⟨by simp, moreF_srt _ _ _, Nat.zero_le _⟩
theorem QI.next {a : Ac} {key : Ct} {i : Nat} {q : List Lk} (h : QI a key i q) (hi : i < q.length) : QI a key (i + 1) (q ++ extF a q[i]) := by
  refine ⟨?_, ?_, by simp; omega⟩
  · rw [List.take_append_of_le_length (by omega), List.take_add_one, List.getElem?_eq_getElem hi, Option.toList_some, List.flatMap_append]
    rw [← List.append_assoc, ← h.eq]
    simp
  · unfold SrtL
    rw [List.pairwise_append]
    refine ⟨h.srt, moreF_srt _ _ _, fun y hy z hz => ?_⟩
    have hqi := h.ch q[i] (List.getElem_mem hi)
    obtain ⟨_, c, hc⟩ := extF_mem hqi hz
    rw [hc]
    have hm : y ∈ begF a key ++ (q.take i).flatMap (extF a) := h.eq ▸ hy
    rcases List.mem_append.1 hm with e | e
    · refine lessF_len ?_
      rw [(begF_mem e).2, List.length_append]
      have := List.length_pos_iff.2 hqi.ne
      simp
      omega
    · obtain ⟨x, hx, hy2⟩ := List.mem_flatMap.1 e
      obtain ⟨j, hj, hxe⟩ := List.getElem_of_mem hx
      have hj1 : j < i := by simp at hj; omega
      have hj2 : j < q.length := by omega
      have hxe2 : q[j] = x := by rw [← hxe, List.getElem_take]
      obtain ⟨_, d, hd⟩ := extF_mem (h.ch x (hxe2 ▸ List.getElem_mem hj2)) hy2
      rw [hd, ← hxe2]
      exact lessF_snoc (List.pairwise_iff_getElem.1 h.srt j i hj2 hi hj1) _ _
theorem queF_spec (a : Ac) (key : Ct) : ∀ (f i : Nat) (q : List Lk), QI a key i q → ∀ Q, queF a f i q = some Q → QI a key Q.length Q
  | 0, _, _, _, _, h => by cases h
  | f + 1, i, q, hq, Q, h => by
    unfold queF at h
    cases hx : q[i]? with
    | none =>
      rw [hx] at h
      injection h with h
      subst h
      have : q.length ≤ i := List.getElem?_eq_none_iff.1 hx
      have e : i = q.length := by have := hq.le; omega
      rw [← e]; exact hq
    | some x =>
      rw [hx] at h
      obtain ⟨hi, rfl⟩ := List.getElem?_eq_some_iff.1 hx
      simp only at h
      split at h
      · cases h
      · exact queF_spec a key f (i + 1) _ (hq.next hi) Q h
/-- The queue at its end holds all chains. -/
theorem QI.all {a : Ac} {key : Ct} {Q : List Lk} (h : QI a key Q.length Q) {cs : List Int} {ts : List Ct} (hc : IsCh a key cs ts) : (cs, ts) ∈ Q := by
  have he := h.eq
  rw [List.take_length] at he
  induction hc with
  | one h1 h2 =>
    rw [he]
    exact List.mem_append.2 (.inl (moreF_mem.2 ⟨_, _, h1, .inl rfl, h2, by simp, rfl⟩))
  | snoc _ h1 h2 h3 h4 ih =>
    rw [he]
    exact List.mem_append.2 (.inr (List.mem_flatMap.2 ⟨_, ih, moreF_mem.2 ⟨_, _, h1, .inr h2, h3, h4, rfl⟩⟩))
theorem nodup_le : ∀ (l A : List (List Int)), l.Nodup → (∀ x ∈ l, x ∈ A) → l.length ≤ A.length
  | [], _, _, _ => Nat.zero_le _
  | x :: l, A, hn, h => by
    have hx := h x (by simp)
    have hn' := List.nodup_cons.1 hn
    have := nodup_le l (A.erase x) hn'.2 fun y hy => (List.mem_erase_of_ne (fun e => by subst e; exact hn'.1 hy)).2 (h y (by simp [hy]))
    rw [List.length_erase_of_mem hx] at this
    have := List.length_pos_of_mem hx
    simp only [List.length_cons]
    omega
/-- Where there are few chains the queue comes to its end. -/
theorem queF_some (a : Ac) (key : Ct) (A : List (List Int)) (hA : ∀ cs ts, IsCh a key cs ts → cs ∈ A) (hl : A.length ≤ 2000) : ∀ (f i : Nat) (q : List Lk), QI a key i q → 2002 ≤ f + i → ∃ Q, queF a f i q = some Q
  | f, i, q, hq, hf => by
    have hlen : q.length ≤ A.length := by
      have hnd : (q.map Prod.fst).Nodup := by
        unfold List.Nodup
        rw [List.pairwise_map]
        exact hq.srt.imp fun hab e => by rw [e, lessF_irrefl] at hab; cases hab
      have hsub : ∀ x ∈ q.map Prod.fst, x ∈ A := fun x hx => by
        obtain ⟨y, hy, rfl⟩ := List.mem_map.1 hx
        exact hA _ _ (hq.ch y hy)
      have := nodup_le _ _ hnd hsub
      simpa using this
    cases f with
    | zero => have := hq.le; omega
    | succ f =>
      unfold queF
      cases hx : q[i]? with
      | none => exact ⟨q, rfl⟩
      | some x =>
        obtain ⟨hi, rfl⟩ := List.getElem?_eq_some_iff.1 hx
        simp only
        rw [if_neg (by omega)]
        exact queF_some a key A hA hl f (i + 1) _ (hq.next hi) (by omega)
end Cha
end Go.Proofs.YtahlfndlkfoikaaDoor
namespace Go.Proofs.YtahlfndlkfoikaaDoor
open Go Go.RowKit Go.Shelf
namespace Cha
/-- slices.Compare at ints. -/
def slC : List Int → List Int → Int
  | x :: l, y :: m => if Cou.cmpI x y = 0 then slC l m else Cou.cmpI x y
  | [], [] => 0
  | [], _ :: _ => -1
  | _ :: _, [] => 1
/-- Compare. -/
def cmpF (l m : List Int) : Int := Cou.orI (Cou.cmpI l.length m.length) (slC l m)
theorem slC_lex : ∀ (l m : List Int), l.length = m.length → slC l m = if lexF m l = true then 1 else if lexF l m = true then -1 else 0
  | [], [], _ => rfl
  | [], _ :: _, h => by cases h
  | _ :: _, [], h => by cases h
  | x :: l, y :: m, h => by
    have ih := slC_lex l m (by simpa using h)
    rw [slC, lexF, lexF]
    by_cases e : x = y
    · subst e
      have hc : Cou.cmpI x x = 0 := by unfold Cou.cmpI; rw [if_neg (by omega), if_neg (by omega)]
      rw [hc, if_pos rfl, if_pos rfl, if_pos rfl, ih]
    · rw [if_neg (fun q : y = x => e q.symm), if_neg e]
      by_cases l1 : x < y
      · have hc : Cou.cmpI x y = -1 := by unfold Cou.cmpI; rw [if_pos l1]
        rw [hc, if_neg (by decide), decide_eq_false (show ¬ y < x by omega), decide_eq_true l1]; rfl
      · have hc : Cou.cmpI x y = 1 := by unfold Cou.cmpI; rw [if_neg l1, if_pos (by omega)]
        rw [hc, if_neg (by decide), decide_eq_true (show y < x by omega)]; rfl
theorem cmpF_less (l m : List Int) : cmpF l m = if lessF m l = true then 1 else if lessF l m = true then -1 else 0 := by
  unfold cmpF lessF
  by_cases e : l.length = m.length
  · have hc : Cou.cmpI l.length m.length = 0 := by unfold Cou.cmpI; rw [if_neg (by omega), if_neg (by omega)]
    rw [if_pos e, if_pos e.symm, hc, ← slC_lex l m e]
    rfl
  · rw [if_neg e, if_neg (fun q : m.length = l.length => e q.symm)]
    by_cases l1 : l.length < m.length
    · have hc : Cou.cmpI l.length m.length = -1 := by unfold Cou.cmpI; rw [if_pos (by omega)]
      rw [hc, decide_eq_false (show ¬ m.length < l.length by omega), decide_eq_true l1]; rfl
    · have hc : Cou.cmpI l.length m.length = 1 := by unfold Cou.cmpI; rw [if_neg (by omega), if_pos (by omega)]
      rw [hc, decide_eq_true (show m.length < l.length by omega)]; rfl
end Cha
set_option maxRecDepth 100000 in
set_option maxHeartbeats 2000000 in
theorem slcmp_any (v v' : Value) (l m : List Int) (w : World) (F : Nat → Prop) (h : SlI F w v l) (h' : SlI F w v' m) :
    Calls Tryd.prog 50 #[v, v'] w fun e w' => e = .returned (.int .i64 (Cha.slC l m)) ∧ w' = w := by
  obtain ⟨A, c, rfl, -, hlm, hat⟩ := h.open
  obtain ⟨A', c', rfl, -, hlm', hat'⟩ := h'.open
  obtain ⟨n, hn⟩ : ∃ n, l.length = n := ⟨_, rfl⟩
  obtain ⟨n', hn'⟩ : ∃ n, m.length = n := ⟨_, rfl⟩
  rw [hn] at hlm ⊢
  rw [hn'] at hlm' ⊢
  have HN := Lib.hid hn
  have HN' := Lib.hid hn'
  have HAT := Lib.hid hat
  have HAT' := Lib.hid hat'
  clear hn hn' h h' hat hat'
  go_enter Tryd.func50, Tryd.ntmps50
  go_wp2_with fail
  go_loopg [11] n (fun gg s wr => ∃ k : Nat, k ≤ n ∧ k ≤ n' ∧ n - k ≤ gg ∧ s = .int .i64 k ∧ Aside (Cha.slC l m = Cha.slC (l.drop k) (m.drop k)) ∧ wr = w)
  case atStart => exact ⟨0, by omega, by omega, by omega, rfl, (show Aside _ from by show _ = _; rw [List.drop_zero, List.drop_zero]), rfl⟩
  case round =>
    obtain ⟨k, hk, hk', hg, rfl, HE, rfl⟩ := hrel
    replace HE := Lib.hid HE
    by_cases hlt : k < n
    · have hltI : (k : Int) < n := by omega
      have hk1 : k < l.length := by rw [HN.out]; exact hlt
      obtain ⟨ad, rfl, -, q0⟩ := HAT.out k hk1
      by_cases hlt' : k < n'
      · have hltI' : decide ((n' : Int) ≤ k) = false := decide_eq_false (by omega)
        have hltJ : (k : Int) < n' := by omega
        have hk2 : k < m.length := by rw [HN'.out]; exact hlt'
        obtain ⟨ad', rfl, -, q0'⟩ := HAT'.out k hk2
        have he := HE.out
        rw [List.drop_eq_getElem_cons hk1, List.drop_eq_getElem_cons hk2, Cha.slC] at he
        have hc := fun W => compare_any l[k] m[k] W
        have HE2 := Lib.hid he
        clear he
        generalize l[k] = x at *
        generalize m[k] = y at *
        clear hk1 hk2
        obtain ⟨r, hr⟩ : ∃ r, Cou.cmpI x y = r := ⟨_, rfl⟩
        rw [hr] at hc HE2
        have HC := Lib.hid hc
        clear hr hc
        by_cases h0 : r = 0
        · subst h0
          have HE3 : Hid (Cha.slC l m = Cha.slC (l.drop (k + 1)) (m.drop (k + 1))) := Lib.hid (by rw [HE2.out, if_pos rfl])
          clear HE2 HE
          go_wp2_with (go_at_call 49; (with_reducible refine ((HC.out _).mono ?_)); rintro e w5 ⟨rfl, rfl⟩)
          go_roundg (n - (k + 1))
          case measure => omega
          case rel => exact ⟨k + 1, by omega, by omega, by omega, by go_num, HE3.out, rfl⟩
        · have d1 : (r != 0) = true := by simpa using h0
          have HE3 : Hid (Cha.slC l m = r) := Lib.hid (by rw [HE2.out, if_neg h0])
          clear HE2 HE h0
          go_wp2_with (go_at_call 49; (with_reducible refine ((HC.out _).mono ?_)); rintro e w5 ⟨rfl, rfl⟩)
          go_ret
          exact ⟨by rw [HE3.out]; rfl, rfl⟩
      · have hltI' : decide ((n' : Int) ≤ k) = true := decide_eq_true (by omega)
        have hltN' : decide (n' ≤ k) = true := decide_eq_true (by omega)
        have HE3 : Hid (Cha.slC l m = 1) := Lib.hid (by
          rw [HE.out, List.drop_eq_getElem_cons hk1, show m.drop k = [] from List.drop_eq_nil_of_le (by rw [HN'.out]; omega)]; rfl)
        clear HE hlt'
        go_wp2_with fail
        go_ret
        exact ⟨by rw [HE3.out]; rfl, rfl⟩
    · obtain rfl : k = n := by omega
      by_cases hlt' : k < n'
      · have d1 : decide ((k : Int) < n') = true := decide_eq_true (by omega)
        have d2 : decide (k < n') = true := decide_eq_true hlt'
        have HE3 : Hid (Cha.slC l m = -1) := Lib.hid (by
          rw [HE.out, show l.drop k = [] from List.drop_eq_nil_of_le (by rw [HN.out]; exact Nat.le_refl _), List.drop_eq_getElem_cons (l := m) (by rw [HN'.out]; exact hlt')]; rfl)
        clear HE
        go_wp2_with fail
        go_ret
        exact ⟨by rw [HE3.out]; rfl, rfl⟩
      · have d1 : decide ((k : Int) < n') = false := decide_eq_false (by omega)
        have d2 : decide (k < n') = false := decide_eq_false hlt'
        have HE3 : Hid (Cha.slC l m = 0) := Lib.hid (by
          rw [HE.out, show l.drop k = [] from List.drop_eq_nil_of_le (by rw [HN.out]; exact Nat.le_refl _), show m.drop k = [] from List.drop_eq_nil_of_le (by rw [HN'.out]; omega)]; rfl)
        clear HE
        go_wp2_with fail
        go_ret
        exact ⟨by rw [HE3.out]; rfl, rfl⟩
set_option maxRecDepth 100000 in
set_option maxHeartbeats 2000000 in
theorem less_any (v v' : Value) (l m : List Int) (w : World) (F : Nat → Prop) (hF : ∀ b, F b → b < w.heap.size) (h : SlI F w v l) (h' : SlI F w v' m) :
    Calls Tryd.prog 22 #[v, v'] w fun e w' => e = .returned (.bool (Cha.lessF l m)) ∧ Below w.heap.size w w' := by
  obtain ⟨A, c, rfl, -, hlm, hat⟩ := h.open
  obtain ⟨A', c', rfl, -, hlm', hat'⟩ := h'.open
  obtain ⟨n, hn⟩ : ∃ n, l.length = n := ⟨_, rfl⟩
  obtain ⟨n', hn'⟩ : ∃ n, m.length = n := ⟨_, rfl⟩
  rw [hn] at hlm ⊢
  rw [hn'] at hlm' ⊢
  have HN := Lib.hid hn
  have HN' := Lib.hid hn'
  have HAT := Lib.hid hat
  have HAT' := Lib.hid hat'
  clear hn hn' h h' hat hat'
  by_cases hne : n = n'
  · subst hne
    have HZ : Hid (Cha.lessF l m = Cha.lexF l m) := Lib.hid (by unfold Cha.lessF; rw [if_pos (by rw [HN.out, HN'.out])])
    go_enter Tryd.func22, Tryd.ntmps22
    go_wp2_with fail
    go_loopg [5] n (fun gg s wr => ∃ k : Nat, k ≤ n ∧ n - k ≤ gg ∧ s = .int .i64 k ∧ Aside (Cha.lexF l m = Cha.lexF (l.drop k) (m.drop k)) ∧ Aside (Below w.heap.size w wr))
    case atStart => exact ⟨0, by omega, by omega, rfl, (show Aside _ from by show _ = _; rw [List.drop_zero, List.drop_zero]), B0 w⟩
    case round =>
      obtain ⟨k, hk, hg, rfl, HE, HB⟩ := hrel
      replace HE := Lib.hid HE
      replace HB := Lib.hid HB
      by_cases hlt : k < n
      · have hltI : (k : Int) < n := by omega
        have hk1 : k < l.length := by rw [HN.out]; exact hlt
        have hk2 : k < m.length := by rw [HN'.out]; exact hlt
        obtain ⟨ad, rfl, hf, q0⟩ := HAT.out k hk1
        obtain ⟨ad', rfl, hf', q0'⟩ := HAT'.out k hk2
        replace q0 := (HB.out.cell (p := ad.add k) (by rw [block_of_add]; exact hF _ hf)).trans q0
        replace q0' := (HB.out.cell (p := ad'.add k) (by rw [block_of_add]; exact hF _ hf')).trans q0'
        have he := HE.out
        rw [List.drop_eq_getElem_cons hk1, List.drop_eq_getElem_cons hk2, Cha.lexF] at he
        have HE2 := Lib.hid he
        clear he hf hf'
        generalize l[k] = x at *
        generalize m[k] = y at *
        clear hk1 hk2
        by_cases h0 : x = y
        · subst h0
          have HE3 : Hid (Cha.lexF l m = Cha.lexF (l.drop (k + 1)) (m.drop (k + 1))) := Lib.hid (by rw [HE2.out, if_pos rfl])
          clear HE2 HE
          go_upto_region 6 with fail
          go_quiet (fail)
          go_wp2_with fail
          go_roundg (n - (k + 1))
          case measure => omega
          case rel => exact ⟨k + 1, by omega, by omega, by go_num, HE3.out, below_drewN HB.out _⟩
        · have d1 : (x != y) = true := by simpa using h0
          have HE3 : Hid (Cha.lexF l m = decide (x < y)) := Lib.hid (by rw [HE2.out, if_neg h0])
          clear HE2 HE h0
          go_upto_region 6 with fail
          go_quiet (fail)
          go_upto_region 7 with fail
          go_quiet (fail)
          go_wp2_with fail
          go_ret
          exact ⟨by rw [HZ.out, HE3.out]; rfl, below_drewN (below_drewN HB.out _) _⟩
      · obtain rfl : k = n := by omega
        have HE3 : Hid (Cha.lexF l m = false) := Lib.hid (by
          rw [HE.out, show l.drop k = [] from List.drop_eq_nil_of_le (by rw [HN.out]; exact Nat.le_refl _)]; rfl)
        clear HE
        go_wp2_with fail
        go_ret
        exact ⟨by rw [HZ.out, HE3.out]; rfl, HB.out⟩
  · have d1 : ((n : Int) != n') = true := by simp; omega
    have HZ : Hid (Cha.lessF l m = decide (n < n')) := Lib.hid (by unfold Cha.lessF; rw [if_neg (by rw [HN.out, HN'.out]; exact hne), HN.out, HN'.out])
    have hd : decide ((n : Int) < n') = decide (n < n') := by simp
    have HD := Lib.hid hd
    clear hd hne
    go_enter Tryd.func22, Tryd.ntmps22
    go_wp2_with fail
    all_goals
      go_ret
      refine ⟨?_, B0 w⟩
      rw [HZ.out]
      first | rfl | (rw [← HD.out]; rfl) | (congr 2; simp; omega)
end Go.Proofs.YtahlfndlkfoikaaDoor
