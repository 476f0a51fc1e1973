/- Walks over slices: the comparison of two lists; the sort of a slice of slices. -/
import Derived.Test.YthgjhfapnilfhaaDoorLa
import Derived.Test.YthgjhfapnilfhaaDoorSf
import Derived.Test.YthgjhfapnilfhaaDoorVd
namespace Go.Proofs.YthgjhfapnilfhaaDoor
open Go Go.RowKit
theorem isNan_any (x : Int) (w : World) : Calls Tryd.prog 133 #[.int .i64 x] w fun e w' => e = .returned (.bool false) ∧ w = w' := by
  go_enter Tryd.func133, Tryd.ntmps133
  go_wp2
  go_ret
  exact ⟨by simp, rfl⟩
set_option maxHeartbeats 1000000 in
theorem cmpI_any (x y : Int) (w : World) : Calls Tryd.prog 100 #[.int .i64 x, .int .i64 y] w fun e w' => e = .returned (.int .i64 (if x < y then -1 else if y < x then 1 else 0)) ∧ w = w' := by
  rcases Int.lt_trichotomy x y with h | h | h
  · have d1 : decide (x < y) = true := decide_eq_true h
    rw [if_pos h]
    clear h
    go_enter Tryd.func100, Tryd.ntmps100
    go_wp2_with (go_at_call 133; refine (isNan_any _ _).mono ?_; rintro e w' ⟨rfl, rfl⟩)
    go_ret
    exact ⟨rfl, rfl⟩
  · subst h
    have d1 : decide (x < x) = false := decide_eq_false (by omega)
    rw [if_neg (by omega), if_neg (by omega)]
    go_enter Tryd.func100, Tryd.ntmps100
    go_wp2_with (go_at_call 133; refine (isNan_any _ _).mono ?_; rintro e w' ⟨rfl, rfl⟩)
    go_ret
    exact ⟨rfl, rfl⟩
  · have d1 : decide (x < y) = false := decide_eq_false (by omega)
    have d2 : decide (y < x) = true := decide_eq_true h
    rw [if_neg (by omega), if_pos h]
    clear h
    go_enter Tryd.func100, Tryd.ntmps100
    go_wp2_with (go_at_call 133; refine (isNan_any _ _).mono ?_; rintro e w' ⟨rfl, rfl⟩)
    go_ret
    exact ⟨rfl, rfl⟩
theorem cmpLex_cons (x y : Nat) (a b : List Nat) : Hit.cmpLex (x :: a) (y :: b) = if x < y then -1 else if y < x then 1 else Hit.cmpLex a b := rfl
set_option maxHeartbeats 2000000 in
theorem compare_any (u v : Value) (a b : List Nat) (w : World) (F G : Nat → Prop) (hu : SlI F w u (Hit.ints a)) (hv : SlI G w v (Hit.ints b)) :
    Calls Tryd.prog 55 #[u, v] w fun e w' => e = .returned (.int .i64 (Hit.cmpLex a b)) ∧ w = w' := by
  obtain ⟨A, c, rfl, _, hla, hat⟩ := hu.open
  obtain ⟨B, d, rfl, _, hlb, hbt⟩ := hv.open
  rw [ints_length] at hla
  rw [ints_length] at hlb
  rw [ints_length, ints_length]
  have HAT := Lib.hid hat
  have HBT := Lib.hid hbt
  clear hu hv hat hbt
  go_enter Tryd.func55, Tryd.ntmps55
  go_wp2_with fail
  go_loopg [11] a.length (fun gg s11 wr => ∃ k : Nat, k ≤ a.length ∧ k ≤ b.length ∧ a.length - k ≤ gg ∧ s11 = .int .i64 k ∧ Aside (Hit.cmpLex (a.drop k) (b.drop k) = Hit.cmpLex a b) ∧ wr = w)
  case atStart => exact ⟨0, by omega, by omega, by omega, rfl, by simp [Aside], rfl⟩
  case round =>
    obtain ⟨k, hk, hkb, hg, rfl, HC, rfl⟩ := hrel
    by_cases hlt : k < a.length
    · have hki : decide ((k : Int) < a.length) = true := decide_eq_true (by omega)
      have hk2 : (k : Int) < a.length := by omega
      obtain ⟨ad, rfl, _, hc⟩ := HAT.out k (by rw [ints_length]; exact hlt)
      rw [ints_get] at hc
      have hcm := HC.out
      rw [List.drop_eq_getElem_cons hlt] at hcm
      by_cases hltb : k < b.length
      · have d1 : decide ((b.length : Int) ≤ (k : Int)) = false := decide_eq_false (by omega)
        have d1n : decide (b.length ≤ k) = false := decide_eq_false (by omega)
        have hk3 : (k : Int) < b.length := by omega
        obtain ⟨bd, rfl, _, hd⟩ := HBT.out k (by rw [ints_length]; exact hltb)
        rw [ints_get] at hd
        rw [List.drop_eq_getElem_cons hltb] at hcm
        rw [cmpLex_cons] at hcm
        generalize a[k] = x at *
        generalize b[k] = y at *
        have HK := Lib.hid (cmpI_any (x : Int) (y : Int) wr)
        clear hlt hltb
        rcases Nat.lt_trichotomy x y with h | h | h
        · rw [if_pos h] at hcm
          rw [if_pos (by omega)] at HK
          have HF := Lib.hid hcm
          clear hcm h
          go_wp2_with (go_at_call 100; (with_reducible refine (HK.out.mono ?_)); rintro e w' ⟨rfl, rfl⟩)
          go_ret
          exact ⟨by rw [← HF.out]; rfl, rfl⟩
        · rw [if_neg (by omega), if_neg (by omega)] at hcm HK
          have HF := Lib.hid hcm
          clear hcm h
          go_wp2_with (go_at_call 100; (with_reducible refine (HK.out.mono ?_)); rintro e w' ⟨rfl, rfl⟩)
          go_roundg (a.length - (k + 1))
          case measure => omega
          case rel => exact ⟨k + 1, by omega, by omega, by omega, by go_num, HF.out, rfl⟩
        · rw [if_neg (by omega), if_pos h] at hcm
          rw [if_neg (by omega), if_pos (by omega)] at HK
          have HF := Lib.hid hcm
          clear hcm h
          go_wp2_with (go_at_call 100; (with_reducible refine (HK.out.mono ?_)); rintro e w' ⟨rfl, rfl⟩)
          go_ret
          exact ⟨by rw [← HF.out]; rfl, rfl⟩
      · have d1 : decide ((b.length : Int) ≤ (k : Int)) = true := decide_eq_true (by omega)
        have d1n : decide (b.length ≤ k) = true := decide_eq_true (by omega)
        rw [List.drop_eq_nil_of_le (by omega : b.length ≤ k)] at hcm
        have hfin : Hit.cmpLex a b = 1 := by rw [← hcm]; rfl
        have HF := Lib.hid hfin
        generalize a[k] = x at *
        clear hcm hfin hltb hlt
        go_wp2_with fail
        go_ret
        exact ⟨by rw [HF.out]; rfl, rfl⟩
    · have hki : decide ((k : Int) < a.length) = false := decide_eq_false (by omega)
      have hka : k = a.length := by omega
      subst hka
      have hcm := HC.out
      rw [List.drop_length] at hcm
      by_cases hltb : a.length < b.length
      · have d1 : decide ((a.length : Int) < (b.length : Int)) = true := decide_eq_true (by omega)
        have d1n : decide (a.length < b.length) = true := decide_eq_true hltb
        rw [List.drop_eq_getElem_cons hltb] at hcm
        have hfin : Hit.cmpLex a b = -1 := by rw [← hcm]; rfl
        have HF := Lib.hid hfin
        clear hcm hfin hltb hlt
        go_wp2_with fail
        go_ret
        exact ⟨by rw [HF.out]; rfl, rfl⟩
      · have d1 : decide ((a.length : Int) < (b.length : Int)) = false := decide_eq_false (by omega)
        have d1n : decide (a.length < b.length) = false := decide_eq_false (by omega)
        rw [List.drop_eq_nil_of_le (by omega : b.length ≤ a.length)] at hcm
        have hfin : Hit.cmpLex a b = 0 := by rw [← hcm]; rfl
        have HF := Lib.hid hfin
        clear hcm hfin hltb hlt
        go_wp2_with fail
        go_ret
        exact ⟨by rw [HF.out]; rfl, rfl⟩
set_option maxHeartbeats 1000000 in
/-- The comparison of All. -/
theorem allCmp_any (u v : Value) (a b : List Nat) (w : World) (F G : Nat → Prop) (hu : SlI F w u (Hit.ints a)) (hv : SlI G w v (Hit.ints b)) :
    Calls Tryd.prog 54 #[u, v] w fun e w' => e = .returned (.int .i64 (Hit.cmpF a b)) ∧ w = w' := by
  have HK := Lib.hid (compare_any u v a b w F G hu hv)
  obtain ⟨A, c, rfl, _, hla, _⟩ := hu.open
  obtain ⟨B, d, rfl, _, hlb, _⟩ := hv.open
  rw [ints_length] at hla
  rw [ints_length] at hlb
  rw [ints_length, ints_length] at HK
  rw [ints_length, ints_length]
  clear hu hv
  by_cases hl : a.length = b.length
  · have hf : Hit.cmpF a b = Hit.cmpLex a b := by unfold Hit.cmpF; rw [if_neg (by omega)]
    have d1 : ((a.length : Int) != (b.length : Int)) = false := by simp [hl]
    rw [hf]
    generalize Hit.cmpLex a b = r at *
    clear hl hf
    go_enter Tryd.func54, Tryd.ntmps54
    go_wp2_with (go_at_call 55; (with_reducible refine (HK.out.mono ?_)); rintro e w' ⟨rfl, rfl⟩)
    go_ret
    exact ⟨rfl, rfl⟩
  · have hf : Hit.cmpF a b = (a.length : Int) - b.length := by unfold Hit.cmpF; rw [if_pos hl]
    have d1 : ((a.length : Int) != (b.length : Int)) = true := by simp; omega
    rw [hf]
    clear hl hf HK
    go_enter Tryd.func54, Tryd.ntmps54
    go_wp2_with fail
    go_ret
    exact ⟨rfl, rfl⟩
/-- A slice of slices of the call's own: the lists lie in other blocks than the row. -/
def OF (base : Nat) (w : World) (v : Value) : Nat → Prop := fun b => base ≤ b ∧ b < w.heap.size ∧ some b ≠ v.ownBlock
def OLI (base : Nat) (w : World) (v : Value) (ls : List (List Int)) : Prop := OwnL base 37 1 (SlC (OF base w v)) w v ls
theorem OLI.nil (base : Nat) (w : World) : OLI base w (.slice none 0 0) [] := OwnL.nil
theorem OLI.form {base : Nat} {w : World} {v : Value} {ls : List (List Int)} (h : OLI base w v ls) : ∃ A c, v = .slice A ls.length c := by
  obtain ⟨cs, _, _, h3⟩ := h
  exact own_form h3
theorem OLI.later {base : Nat} {w w' : World} {v : Value} {ls : List (List Int)} (h : OLI base w v ls) (hb : Below w.heap.size w w') : OLI base w' v ls := by
  refine OwnL.keep h rfl (fun xs hx => ?_) fun c x hc => ?_
  · exact hx.kept (row := none) ⟨hb.os, hb.tape, hb.output, hb.size, fun i hi _ => hb.block i hi⟩ (by cases hv : v.ownBlock <;> simp)
  · exact hc.keep (Agree.below hb fun b hF => hF.2.1) fun b ⟨q1, q2, q3⟩ => ⟨q1, Nat.lt_of_lt_of_le q2 hb.size, q3⟩
theorem OLI.append {base : Nat} {cs : List (List Value)} {w w2 w' : World} {v u : Value} {g cap : Nat} {ls : List (List Int)} {l : List Int} (h1 : cs.length = ls.length) (h2 : ∀ i (h : i < ls.length), ∃ c, cs[i]? = some c ∧ c.length = 1 ∧ SlC (OF base w v) w c ls[i])
    (hb : Below w.heap.size w w2) (hbase : base ≤ w.heap.size) (hvl : ∀ b, v.ownBlock = some b → b < w.heap.size) (hown : w'.ownsRow base 37 1 (.slice (some ⟨g, 0, none⟩) (ls.length + 1) cap) (ls.length + 1) (cs.flatten ++ [u]))
    (hgrow : w2.grownBy w' v.ownBlock) (hat : some g = v.ownBlock ∨ g = w2.heap.size) (hu : SlI (fun b => w.heap.size ≤ b ∧ b < w2.heap.size) w2 u l) : OLI base w' (.slice (some ⟨g, 0, none⟩) (ls.length + 1) cap) (ls ++ [l]) := by
  have hsz : w2.heap.size ≤ w'.heap.size := hgrow.size
  have hs2 := hb.size
  have hF : ∀ b, base ≤ b → b < w2.heap.size → some b ≠ v.ownBlock → OF base w' (.slice (some ⟨g, 0, none⟩) (ls.length + 1) cap) b := fun b q1 q2 q3 => by
    refine ⟨q1, by omega, ?_⟩
    show some b ≠ some g
    rcases hat with e | e
    · rw [e]; exact q3
    · intro e2; injection e2; omega
  refine OwnL.snoc h1 h2 rfl ⟨u, rfl, (hu.keep fun b hb' => hgrow.block b hb'.2 fun e => by have := hvl b e.symm; omega).mono fun b hb' => hF b (by omega) hb'.2 fun e => by have := hvl b e.symm; omega⟩ (fun c x hc => ?_) hown
  exact hc.keep (fun b ⟨q1, q2, q3⟩ => (hgrow.block b (by omega) q3).trans (hb.block b q2)) fun b ⟨q1, q2, q3⟩ => hF b q1 (by omega) q3
theorem agree_sort {α : Type} [Inhabited α] (enc : α → Value) (w : World) (blk m : Nat) (dk : Array α) (os : Array Obj) (F : Nat → Prop) (hF : ∀ b, F b → b < w.heap.size ∧ b ≠ blk) : Agree F w (sortWorld enc w blk 0 m dk os) := fun b hb => by
  obtain ⟨h1, h2⟩ := hF b hb
  have hs : (Sort.putRow enc (Sort.ahead w m) blk 0 dk).heap.size = w.heap.size := by simp
  show (Sort.grow (Sort.putRow enc (Sort.ahead w m) blk 0 dk) os).heap[b]? = _
  rw [Sort.heap_grow_old _ _ (by rw [hs]; exact h1)]
  simp [Sort.putRow, Sort.mapBlock, Sort.ahead, Array.getElem?_modify, Ne.symm h2]
theorem swo_cmp {α : Type} [Inhabited α] (f : α → List Nat) : Sort.SWO (ltOf fun x y => Hit.cmpF (f x) (f y)) := by
  have e : ∀ x y, ltOf (fun x y => Hit.cmpF (f x) (f y)) x y = Hit.before (f x) (f y) := fun x y => Hit.cmpF_lt _ _
  refine ⟨fun x => ?_, fun x y z h1 h2 => ?_, fun x y z h1 h2 => ?_⟩
  · rw [e]
    cases h : Hit.before (f x) (f x) with
    | false => rfl
    | true => have := Hit.before_asymm _ _ h; rw [h] at this; exact this
  · rw [e] at *; exact Hit.before_trans _ _ _ h1 h2
  · rw [e] at *; exact Hit.before_neg _ _ _ h1 h2
set_option maxHeartbeats 1000000 in
/-- The sort: what is left is in order, and has what was there. -/
theorem sortAll_any (base g cap : Nat) (ls : List (List Nat)) (w : World) (hl : ls.length ≤ 1000000) (h : OLI base w (.slice (some ⟨g, 0, none⟩) ls.length cap) (intsL ls)) (hpos : 0 < ls.length) :
    Calls Tryd.prog 53 #[.slice (some ⟨g, 0, none⟩) ls.length cap, .func (.func 54) #[] #[]] w fun e w' => e = .returned (.tuple #[]) ∧ ∃ M : List (List Nat), M.Perm ls ∧ (M.Pairwise fun x y => Hit.before y x = false) ∧ M.length = ls.length ∧
      SlII (fun b => base ≤ b ∧ b < w'.heap.size) w' (.slice (some ⟨g, 0, none⟩) ls.length cap) (intsL M) ∧ w.grownBy w' (some g) := by
  obtain ⟨cs, h1, h2, h3⟩ := h
  have hlen : (intsL ls).length = ls.length := by simp [intsL]
  rw [hlen] at h1 h3
  have hex : ∀ i (hi : i < ls.length), ∃ u, cs.flatten[i]? = some u ∧ SlI (OF base w (.slice (some ⟨g, 0, none⟩) ls.length cap)) w u (Hit.ints ls[i]) := fun i hi => by
    obtain ⟨c, q1, q2, q3⟩ := h2 i (by omega)
    obtain ⟨u, rfl, hu⟩ := q3
    refine ⟨u, ?_, by simpa [intsL] using hu⟩
    have hall : ∀ (L : List (List Value)), (∀ x ∈ L, x.length = 1) → ∀ (i : Nat) (u : Value), L[i]? = some [u] → L.flatten[i]? = some u := by
      intro L
      induction L with
      | nil => intro _ i u h; simp at h
      | cons x L ih =>
        intro hx i u h
        have hx1 := hx x (by simp)
        cases i with
        | zero =>
          simp at h; subst h; rfl
        | succ i =>
          rw [List.flatten_cons, List.getElem?_append_right (by omega), hx1, Nat.add_sub_cancel]
          exact ih (fun y hy => hx y (by simp [hy])) i u (by simpa using h)
    refine hall cs (fun x hx => ?_) i u q1
    obtain ⟨k, hk, rfl⟩ := List.getElem_of_mem hx
    obtain ⟨c', r1, r2, _⟩ := h2 k (by omega)
    rw [List.getElem?_eq_getElem hk] at r1
    injection r1 with r1
    rw [r1]; exact r2
  haveI : Inhabited (Fin ls.length) := ⟨⟨0, hpos⟩⟩
  let enc : Fin ls.length → Value := fun i => cs.flatten.getD i.1 (.slice none 0 0)
  let d : Array (Fin ls.length) := Array.ofFn fun i => i
  have hds : d.size = ls.length := by simp [d]
  have hdj : ∀ j (hj : j < ls.length), d[j]! = ⟨j, hj⟩ := fun j hj => by
    rw [getElem!_pos d j (by omega)]; simp [d]
  have henc : ∀ x : Fin ls.length, SlI (OF base w (.slice (some ⟨g, 0, none⟩) ls.length cap)) w (enc x) (Hit.ints ls[x.1]) := fun x => by
    obtain ⟨u, q1, q2⟩ := hex x.1 x.2
    show SlI _ w (cs.flatten.getD x.1 _) _
    rw [List.getD_eq_getElem?_getD, q1]; exact q2
  have hO1 : OneCell enc := fun x => by
    obtain ⟨A, c, e, _⟩ := (henc x).open
    rw [e]; rfl
  have hH : Sort.Holds enc w g 0 d := fun j hj => by
    rw [hds] at hj
    obtain ⟨u, q1, q2⟩ := hex j hj
    refine ⟨?_, h3.frozenAt _⟩
    rw [hdj j hj, Nat.zero_add, h3.cellAt j (by omega), q1]
    show some u = some (cs.flatten.getD j _)
    rw [List.getD_eq_getElem?_getD, q1]; rfl
  have hgl := (h3.lt g rfl).2
  have hgb := (h3.lt g rfl).1
  have hag : ∀ m dk os, Agree (OF base w (.slice (some ⟨g, 0, none⟩) ls.length cap)) w (sortWorld enc w g 0 m dk os) := fun m dk os => agree_sort enc w g m dk os _ fun b hb => ⟨hb.2.1, fun e => hb.2.2 (by rw [e]; rfl)⟩
  have hcmp : CmpLays1 Tryd.prog 54 #[] enc (fun x y => Hit.cmpF ls[x.1] ls[y.1]) g 0 d.size w := fun m os dk _ x y =>
    (allCmp_any (enc x) (enc y) ls[x.1] ls[y.1] (sortWorld enc w g 0 m dk os) _ _ ((henc x).keep (hag m dk os)) ((henc y).keep (hag m dk os))).mono fun _ _ ⟨he, hw⟩ => ⟨he, 0, #[], by rw [← hw, Sort.grow_empty]; rfl⟩
  have key := Any.slices_SortFunc Tryd.laysSort enc hO1 (fun x y => Hit.cmpF ls[x.1] ls[y.1]) (swo_cmp fun x : Fin ls.length => ls[x.1]) 54 #[] g 0 cap d w (enters_of Tryd.func54 (by kernel_rfl) rfl) hcmp hH hgl (by omega)
  rw [hds] at key
  refine Calls.mono (show Calls Tryd.prog 53 _ w _ from key) ?_
  rintro e w' ⟨he, d', n, os, hp, hs, rfl⟩
  obtain ⟨hz, _, hpm⟩ := hp
  have hz' : d'.size = ls.length := by rw [hz, hds]
  have hex0 : ∀ (x : Array (Fin ls.length)) (k : Nat), k = x.size → x.extract 0 k = x := fun x k hk => by subst hk; exact Array.extract_size
  have e1 := hex0 d' ls.length hz'.symm
  have e2 := hex0 d ls.length hds.symm
  rw [e1, e2] at hpm
  have hdl : d.toList.map (fun i => ls[i.1]) = ls := by
    apply List.ext_getElem
    · simp [d]
    · intro i h1 h2
      simp [d]
  have hd'j : ∀ j (hj : j < ls.length), d'[j]! = d'[j]'(by omega) := fun j hj => getElem!_pos d' j (by omega)
  refine ⟨he, d'.toList.map fun i => ls[i.1], ?_, ?_, by simp [hz'], ?_, ?_⟩
  · have := hpm.map (fun i : Fin ls.length => ls[i.1])
    rwa [hdl] at this
  · rw [List.pairwise_iff_getElem]
    intro i j hi hj hij
    simp at hi hj
    have h1 := hs i j (Nat.zero_le _) hij (by omega)
    rw [hd'j i (by omega), hd'j j (by omega)] at h1
    have h2 : ltOf (fun x y : Fin ls.length => Hit.cmpF ls[x.1] ls[y.1]) (d'[j]'hj) (d'[i]'hi) = Hit.before ls[(d'[j]'hj).1] ls[(d'[i]'hi).1] := Hit.cmpF_lt _ _
    rw [h2] at h1
    simpa using h1
  · have hsz : w.heap.size ≤ (sortWorld enc w g 0 n d' os).heap.size := by
      show _ ≤ (Sort.grow (Sort.putRow enc (Sort.ahead w n) g 0 d') os).heap.size
      rw [Sort.size_grow, Sort.size_putRow]; exact Nat.le_add_right _ _
    have hcap : ls.length ≤ cap := by
      rcases h3.2 with ⟨hv, _⟩ | ⟨g', cap', cur, hv, _, _, hc, _⟩
      · injection hv with e1 _ _; cases e1
      · injection hv with _ _ e
        rw [e]; exact hc
    have hil : (intsL (d'.toList.map fun i => ls[i.1])).length = ls.length := by simp [intsL, hz']
    refine ⟨some ⟨g, 0, none⟩, cap, by rw [hil], by rw [hil]; exact hcap, by rw [hil]; omega, fun i hi => ?_⟩
    rw [hil] at hi
    have hcell : (sortWorld enc w g 0 n d' os).cell? ⟨g, 0 + i, none⟩ = some (enc d'[i]!) := by
      show (Sort.grow (Sort.putRow enc (Sort.ahead w n) g 0 d') os).cell? _ = _
      rw [Sort.cell?_grow _ _ _ (by rw [Sort.size_putRow]; exact hgl)]
      exact Sort.cell?_putRow enc (Sort.ahead w n) g 0 d d' hH hz i (by omega)
    refine ⟨_, [enc d'[i]!], rfl, ⟨hgb, Nat.lt_of_lt_of_le hgl hsz⟩, rfl, ⟨_, rfl, ?_⟩, ?_⟩
    · have h1 := ((henc d'[i]!).keep (hag n d' os)).mono (G := fun b => base ≤ b ∧ b < (sortWorld enc w g 0 n d' os).heap.size) fun b hb => ⟨hb.1, Nat.lt_of_lt_of_le hb.2.1 hsz⟩
      rw [hd'j i hi] at h1 ⊢
      simpa [intsL] using h1
    · rw [Nat.mul_one, add_zero_off]
      rw [Nat.zero_add] at hcell
      intro j v hv
      cases j with
      | zero => simp at hv; subst hv; simpa [Addr.add] using hcell
      | succ j => simp at hv
  · refine ⟨rfl, rfl, rfl, ?_, fun b hb hne => ?_⟩
    · show _ ≤ (Sort.grow (Sort.putRow enc (Sort.ahead w n) g 0 d') os).heap.size
      rw [Sort.size_grow, Sort.size_putRow]; exact Nat.le_add_right _ _
    · exact agree_sort enc w g n d' os (fun x => x < w.heap.size ∧ x ≠ g) (fun _ h => h) b ⟨hb, fun e => hne (by rw [e])⟩
end Go.Proofs.YthgjhfapnilfhaaDoor
