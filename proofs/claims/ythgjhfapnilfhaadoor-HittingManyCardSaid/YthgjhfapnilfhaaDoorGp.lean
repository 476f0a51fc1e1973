/- Plain: a further set makes the least list no shorter and the lists no more; the reference's lists hit and are irreducible; what the functions return over them. -/
import Derived.Test.YthgjhfapnilfhaaDoorLe
import Derived.Test.YthgjhfapnilfhaaDoorGr
namespace Go.Proofs.YthgjhfapnilfhaaDoor
open Go Go.RowKit
namespace Hit
theorem good_snoc {ws : List Nat} {n b : Nat} (h : Good ws n) (h0 : b ≠ 0) (hb : b < 2 ^ n) : Good (ws ++ [b]) n := fun s hs => by
  rcases List.mem_append.1 hs with hs | hs
  · exact h s hs
  · simp only [List.mem_singleton] at hs; subst hs; exact ⟨h0, hb⟩
theorem hit_snoc {ws : List Nat} {b w : Nat} (h : hit (ws ++ [b]) w = true) : hit ws w = true := by
  rw [hit_iff] at *
  exact fun s hs => h s (List.mem_append_left _ hs)
theorem least_snoc {ws : List Nat} {n b : Nat} {X Y : List Nat} {w v : Nat} (hX : IsLeast ws n w X) (hY : IsLeast (ws ++ [b]) n v Y) : X.length ≤ Y.length :=
  hX.short Y ⟨hY.ok.inc, hY.ok.lo, hY.ok.len, hit_snoc hY.ok.hits⟩
theorem count_snoc (ws : List Nat) (n b : Nat) : (allF (ws ++ [b]) n).2 ≤ (allF ws n).2 := by
  rw [allF_count, allF_count]
  refine List.Sublist.length_le ?_
  have e : (List.range (2 ^ n)).filter (fun x => hit (ws ++ [b]) x) = ((List.range (2 ^ n)).filter (fun x => hit ws x)).filter (fun x => hit (ws ++ [b]) x) := by
    rw [List.filter_filter]
    refine List.filter_congr fun x _ => ?_
    cases hc : hit (ws ++ [b]) x with
    | false => rfl
    | true => rw [hit_snoc hc]; rfl
  rw [e]
  exact List.filter_sublist
theorem all_mem {ws : List Nat} {n : Nat} (hn : n ≤ 32) {l : List Nat} (hl : l ∈ (allF ws n).1) : ∃ w, w < 2 ^ n ∧ l = members w ∧ word l = w ∧ hit ws w = true ∧ reduce ws w l = w := by
  have h1 := (allF_perm ws n).mem_iff.1 hl
  obtain ⟨w, hw, rfl⟩ := List.mem_map.1 h1
  unfold irrL at hw
  rw [List.mem_filter, List.mem_range, Bool.and_eq_true] at hw
  obtain ⟨hw, hh, hi⟩ := hw
  have h64 : w < 2 ^ 64 := Nat.lt_of_lt_of_le hw (Nat.pow_le_pow_right (by decide) (by omega))
  rw [irr_members (by omega) hw, List.all_eq_true] at hi
  exact ⟨w, hw, rfl, word_members h64, hh, reduce_same _ _ _ fun i him => by simpa using hi i him⟩
end Hit
/-- Two rows of one's own of different types are different blocks. -/
theorem Own0.apart {w : World} {base base' : Nat} {e e' : TypeId} {A A' : Option Addr} {n n' c c' : Nat} {xs xs' : List Value} (h : Own0 w base e 1 A n c xs) (h' : Own0 w base' e' 1 A' n' c' xs') (hne : e ≠ e') (hn : 0 < n) (hn' : 0 < n') : (Value.slice A n c).ownBlock ≠ (Value.slice A' n' c').ownBlock := by
  rcases h with ⟨q, _, _⟩ | ⟨_, h⟩
  · omega
  rcases h' with ⟨q, _, _⟩ | ⟨_, h'⟩
  · omega
  obtain ⟨g', cap', hv, _⟩ := h'.form hn'
  rcases h'.2 with ⟨q, _⟩ | ⟨g2, cap2, cur2, hv2, _, hh, _⟩
  · rw [q] at hv; cases hv
  · rw [hv2]
    exact own_blk_ne h (show Blk w g2 e' cur2 from hh) hne
theorem Own0.past {w w' : World} {base base' : Nat} {e e' : TypeId} {A A' : Option Addr} {n n' c c' : Nat} {xs xs' : List Value} (h : Own0 w base e 1 A n c xs) (h' : Own0 w base' e' 1 A' n' c' xs') (hne : e ≠ e')
    (hq : (n' = 0 ∧ Below w.heap.size w w') ∨ (0 < n' ∧ w.grownBy w' (Value.slice A' n' c').ownBlock)) : Own0 w' base e 1 A n c xs := by
  rcases hq with ⟨_, hb⟩ | ⟨hn', hg⟩
  · exact h.below hb
  · rcases Nat.eq_zero_or_pos n with h0 | h0
    · rcases h with h | ⟨q, _⟩
      · exact .inl h
      · omega
    · exact h.kept hg (.inr (h.apart h' hne h0 hn'))
theorem Blk.past {w w' : World} {base' g : Nat} {t e' : TypeId} {cs : Array Value} {A' : Option Addr} {n' c' : Nat} {xs' : List Value} (h : Blk w g t cs) (h' : Own0 w base' e' 1 A' n' c' xs') (hne : e' ≠ t)
    (hq : (n' = 0 ∧ Below w.heap.size w w') ∨ (0 < n' ∧ w.grownBy w' (Value.slice A' n' c').ownBlock)) : Blk w' g t cs := by
  rcases hq with ⟨_, hb⟩ | ⟨hn', hg⟩
  · exact h.below hb h.lt
  · rcases h' with ⟨q, _, _⟩ | ⟨_, h'⟩
    · omega
    · exact h.grown hg (fun e => own_blk_ne h' h hne e.symm)
namespace Prob
variable {n : Nat} {v : Value} {ws : List Nat} {B : Nat} {w W : World}
theorem bothZ (h : Prob n v ws B w) {x : Nat} (hx : x < 2 ^ n) : bothF n (setsOf ws) (Hit.ints (Hit.members x)) = 0 := by
  have h1 : Hit.checkF n (setsOf ws) = 0 := Hit.checkF_of h.le h.len h.good
  unfold bothF
  rw [if_neg (by rw [h1]; simp)]
  exact Hit.listF_of (Hit.inc_members _) (Hit.members_lt hx)
theorem hitsA (h : Prob n v ws B w) {l : List Nat} (hl : l ∈ (Hit.allF ws n).1) (vl : Value) (hr : SlI (fun b => b < w.heap.size) w vl (Hit.ints l)) : Calls Tryd.prog 26 #[.agg #[.int .i64 n, v], vl] w fun e w' => e = .returned (.tuple #[.int .i64 0, .bool true, .int .i64 0]) ∧ Below w.heap.size w w' := by
  obtain ⟨x, hx, rfl, hw, hh, _⟩ := Hit.all_mem (by have := h.le; omega) hl
  have := hits_ok n v vl ws h.lt (by have := h.len; omega) (Hit.members x) (fun y hy => by have := Hit.members_lt hx y hy; have := h.le; omega) w (fun b => b < B) (fun b => b < w.heap.size) h.inW (fun _ h => h) h.sets hr (h.bothZ hx)
  rwa [hw, hitsV_all (by have := (missF_neg ws x).2 hh; omega)] at this
theorem reduceA (h : Prob n v ws B w) {l : List Nat} (hl : l ∈ (Hit.allF ws n).1) (vl : Value) (hr : SlI (fun b => b < w.heap.size) w vl (Hit.ints l)) : Calls Tryd.prog 27 #[.agg #[.int .i64 n, v], vl] w fun e w' => ∃ u, e = .returned (.tuple #[u, .int .i64 0]) ∧ SlI (fun b => b < w'.heap.size) w' u (Hit.ints l) ∧ Below w.heap.size w w' := by
  obtain ⟨x, hx, rfl, hw, hh, hred⟩ := Hit.all_mem (by have := h.le; omega) hl
  refine (reduce_ok n v vl ws h.lt (by have := h.len; omega) (Hit.members x) (fun y hy => by have := Hit.members_lt hx y hy; have := h.le; omega) w (fun b => b < B) (fun b => b < w.heap.size) h.inW (fun _ h => h) h.sets hr (h.bothZ hx) h.tab).mono ?_
  rw [hw]
  rintro e w' (⟨q, _⟩ | ⟨_, A, m, c, rfl, hm, hO, hb⟩)
  · rw [hh] at q; cases q
  · rw [hred] at hm hO
    exact ⟨_, rfl, hO.ints hm (red_len _) fun b _ q => q, hb⟩
end Prob
end Go.Proofs.YthgjhfapnilfhaaDoor
