/- Walks over coupler: the sort of contacts. -/
import Derived.Test.YtnkjhppjjklgfaaDoorKo
import Derived.Shelf.SlSortCmp.NoneTotal
import Derived.Test.YtnkjhppjjklgfaaDoorLay
namespace Go.Proofs.YtnkjhppjjklgfaaDoor
open Go Go.RowKit Go.Shelf
def encC (c : Cou.Ct) : List Value := [.int .i64 c.1, .int .i64 c.2]
theorem ltOf_ord (x y : Cou.Ct) : Go.Proofs.ltOf Cou.ordF x y = decide (Cou.lt x y) := by
  unfold Go.Proofs.ltOf
  exact decide_eq_decide.2 (Cou.ordF_lt x y)
theorem swo_ord : Go.Sort.SWO (Go.Proofs.ltOf Cou.ordF) where
  irrefl x := by rw [ltOf_ord]; exact decide_eq_false (Cou.lt_irrefl x)
  trans x y z h1 h2 := by rw [ltOf_ord] at *; simp only [decide_eq_true_eq] at *; exact Cou.lt_trans h1 h2
  ntrans x y z h1 h2 := by rw [ltOf_ord] at *; simp only [decide_eq_false_iff_not] at *; unfold Cou.lt at *; omega
theorem below_sort {base g : Nat} (hg : base ≤ g) (w : World) (n : Nat) (d : Array Cou.Ct) (os : Array Obj) (hb : base ≤ w.heap.size) : Below base w (sortWorldK encC 2 w g 0 n d os) := by
  refine ⟨rfl, rfl, rfl, ?_, fun k hk => ?_⟩
  · simp [sortWorldK, Go.Sort.grow, Go.Sort.putRowK]
  · have hk2 : k < w.heap.size := by omega
    simp only [sortWorldK, Go.Sort.grow, Go.Sort.putRowK, Go.Sort.putRow, Go.Sort.mapBlock, Go.Sort.heap_ahead]
    rw [Array.getElem?_append_left (by simpa using hk2), Array.getElem?_modify, if_neg (by omega)]
theorem add_two (g i j : Nat) : ((⟨g, 0, none⟩ : Addr).add (i * 2)).add j = ⟨g, 0 + i * 2 + j, none⟩ := by
  have h1 : (⟨g, 0, none⟩ : Addr).add (i * 2) = ⟨g, 0 + i * 2, none⟩ := by unfold Addr.add; split <;> simp_all
  rw [h1]
  unfold Addr.add
  split <;> simp_all
set_option maxHeartbeats 1000000 in
theorem sort_any (Q : List Cou.Ct) (hn : Q.Nodup) (base : Nat) (v : Value) (w : World) (hown : OwnL base 28 2 CtC w v Q) (hl : Q.length ≤ 1024) (hb : base ≤ w.heap.size) :
    Calls Tryd.prog 61 #[v, .func (.func 62) #[] #[]] w fun e w' => e = .returned (.tuple #[]) ∧ ∃ l, SlCt (fun b => base ≤ b) w' v l ∧ Cou.Srt l ∧ (∀ t, t ∈ l ↔ t ∈ Q) ∧ Below base w w' := by
  have hsl := hown.sl (F := fun b => base ≤ b) (by omega) (fun b h _ _ => h)
  have hlt := hown.lt
  obtain ⟨A, c, rfl, h1, h2, hat⟩ := id hsl
  rcases Nat.eq_zero_or_pos Q.length with h0 | hpos
  · have hq : Q = [] := List.eq_nil_of_length_eq_zero h0
    subst hq
    refine (AnyF.slices_SortFunc_none sortCt A c _ w).mono ?_
    rintro e w' ⟨rfl, rfl⟩
    exact ⟨rfl, [], hsl, List.Pairwise.nil, fun t => Iff.rfl, Below.refl _ _⟩
  · obtain ⟨ad, _, rfl, _, _, _, _⟩ := hat 0 hpos
    obtain ⟨g, rfl⟩ : ∃ g, ad = ⟨g, 0, none⟩ := by
      obtain ⟨cs, _, _, h3⟩ := hown
      rcases h3.2 with ⟨q, _⟩ | ⟨g, cap, cur, q, _⟩
      · cases q
      · injection q with q
        injection q with q
        exact ⟨g, q⟩
    have hgb := hlt g rfl
    have hfz : ∀ o, w.frozen? ⟨g, o, none⟩ = false := by
      obtain ⟨cs, _, _, h3⟩ := hown
      rcases h3.2 with ⟨q, _⟩ | ⟨g', cap, cur, q, _, hh, _⟩
      · cases q
      · injection q with q
        injection q with q
        injection q with q
        subst q
        intro o
        simp [World.frozen?, hh]
    have hH : Go.Sort.HoldsK encC 2 w g 0 Q.toArray := by
      intro j hj
      rw [Go.Sort.size_flatK, List.size_toArray] at hj
      refine ⟨?_, hfz _⟩
      obtain ⟨ad', cs, q1, _, _, q4, q5⟩ := hat (j / 2) (by omega)
      injection q1 with q1
      subst q1
      unfold CtC at q4
      subst q4
      rw [Go.Sort.get_flatK _ _ _ _ (by simpa using hj)]
      have hjj : j = j / 2 * 2 + j % 2 := by omega
      have hgt : Q.toArray[j / 2]! = Q[j / 2]'(by omega) := by
        rw [getElem!_pos _ _ (by simpa using (by omega : j / 2 < Q.length))]
        simp
      rw [hgt]
      have hm : j % 2 = 0 ∨ j % 2 = 1 := by omega
      rcases hm with hm | hm
      · have := q5 0 (.int .i64 (Q[j / 2]'(by omega)).1) rfl
        rw [add_two] at this
        rw [hm]
        rw [show 0 + j = 0 + j / 2 * 2 + 0 by omega]
        exact this
      · have := q5 1 (.int .i64 (Q[j / 2]'(by omega)).2) rfl
        rw [add_two] at this
        rw [hm]
        rw [show 0 + j = 0 + j / 2 * 2 + 1 by omega]
        exact this
    have eg : ∀ args w, (callFunc 62 args).run Tryd.prog w = .ok (.enter 62 args) w := enters_of Tryd.func62 (by kernel_rfl) rfl
    have hcon := AnyQ.slices_SortFunc sortCt 2 Tryd.isAgg28 Tryd.sizeOf28 encC (fun _ => rfl) (fun x v hv => by simp [encC] at hv; rcases hv with rfl | rfl <;> rfl) Cou.ordF swo_ord 62 #[] g 0 c Q.toArray w eg (cmpLays_order g 0 Q.toArray.size w) hH hgb.2 (by simp; omega)
    rw [List.size_toArray] at hcon
    refine hcon.mono ?_
    rintro e w' ⟨rfl, d', n, os, hp, hs, rfl⟩
    obtain ⟨hp1, _, hp3⟩ := hp
    replace hp1 : d'.size = Q.length := by simpa using hp1
    have hperm : d'.toList.Perm Q := by
      have e1 : d'.extract 0 Q.length = d' := by rw [← hp1]; exact Array.extract_size
      have e2 : Q.toArray.extract 0 Q.length = Q.toArray := by
        have := Array.extract_size (xs := Q.toArray)
        simpa using this
      rw [e1, e2] at hp3
      simpa using hp3
    have hnd : d'.toList.Nodup := hperm.nodup_iff.2 hn
    refine ⟨rfl, d'.toList, ?_, ?_, fun t => hperm.mem_iff, below_sort hgb.1 w n d' os hb⟩
    · have hH2 : Go.Sort.HoldsK encC 2 (sortWorldK encC 2 w g 0 n d' os) g 0 d' := by
        unfold sortWorldK
        exact Go.Sort.holdsK_grow encC 2 _ _ _ _ _ (by simp [Go.Sort.putRowK]; exact hgb.2) (Go.Sort.holdsK_putRowK encC 2 _ _ _ Q.toArray d' (Go.Sort.holdsK_ahead encC 2 _ _ _ _ _ hH) (by simpa using hp1))
      have hlen : d'.toList.length = Q.length := by simpa using hp1
      refine ⟨some ⟨g, 0, none⟩, c, by rw [hlen], by omega, by omega, fun i hi => ⟨⟨g, 0, none⟩, encC d'.toList[i], rfl, hgb.1, rfl, rfl, fun j u hu => ?_⟩⟩
      have hi2 : i < d'.size := by simpa using hi
      have hgt : d'[i]! = d'.toList[i]'hi := by rw [getElem!_pos d' i hi2]; simp
      rw [add_two]
      have hj : j < 2 := by
        have := (List.getElem?_eq_some_iff.1 hu).1
        simpa [encC] using this
      have := (hH2.cell hi2 hj).1
      rw [this, hgt]
      have hj2 : j = 0 ∨ j = 1 := by omega
      rcases hj2 with rfl | rfl
      · simpa [encC] using hu
      · simpa [encC] using hu
    · unfold Cou.Srt
      rw [List.pairwise_iff_getElem]
      intro i j hi hj hij
      have hi2 : i < d'.size := by simpa using hi
      have hj2 : j < d'.size := by simpa using hj
      have := hs i j (Nat.zero_le _) hij (by omega)
      rw [ltOf_ord, decide_eq_false_iff_not, getElem!_pos d' i hi2, getElem!_pos d' j hj2] at this
      rcases Cou.lt_tri d'.toList[i] d'.toList[j] with q | q | q
      · exact q
      · have := (List.getElem_inj hnd (h₀ := hi) (h₁ := hj)).1 q
        omega
      · exact absurd (by simpa using q) this
end Go.Proofs.YtnkjhppjjklgfaaDoor
