/- Walks over chain's statements: same, of lists that read alike. -/
import Derived.Test.YtahlfndlkfoikaaDoorIb
import Derived.Test.YtahlfndlkfoikaaDoorQ1
namespace Go.Proofs.YtahlfndlkfoikaaDoor
open Go Go.RowKit Go.Shelf
theorem wp_region_classS {P : Program} {C : World → Prop} {id : Nat} {Q : Exit → Act → World → Prop} {a : Act} {w : World} {l : List Oper} (hm : P.follows .mixedOrders = true) (hB : Region.lexB .any l.toArray = true) (hC : C { w with drawn := w.drawn + 1 })
    (h : wpQuiet P l.toArray C (fun a' => ∀ w', C w' → Q .normal a' w') l a) : (Code.region id l.toArray true).wp P Q a w :=
  wp_region_quiet (C := C) hm hB hC (by simpa using h)
/-- The worlds that leave all that was in w1. -/
def ClsS (w1 : World) : Type := { x : World // Below w1.heap.size w1 x }
def ClsS.w {w1 : World} (q : ClsS w1) : World := q.1
theorem ClsS.b {w1 : World} (q : ClsS w1) : Below w1.heap.size w1 q.w := q.2
def ClsS.mk' {w1 w : World} (h : Below w1.heap.size w1 w) : ClsS w1 := ⟨w, h⟩
instance (w1 : World) : Nonempty (ClsS w1) := ⟨⟨w1, Below.refl _ _⟩⟩
theorem SlCh.bel {w w' : World} {v : Value} {L : List Cha.Ch} (h : SlCh (fun b => b < w.heap.size) w v L) (hb : Below w.heap.size w w') : SlCh (fun b => b < w'.heap.size) w' v L :=
  Sl.mono (Sl.keep h (Agree.below hb fun b h => h) fun _ _ h => h.below hb) fun b h => Nat.lt_of_lt_of_le h hb.size
/-- A chain in memory, its couplers' slice below the world's size. -/
def ChW (w : World) (cs : List Value) (x : Cha.Ch) : Prop := ∃ u, cs = [u, .int .i64 x.2.1, .int .i64 x.2.2] ∧ SlI (fun b => b < w.heap.size) w u x.1
abbrev SlW (w : World) (v : Value) (l : List Cha.Ch) : Prop := Sl (fun b => b < w.heap.size) 3 ChW w v l
theorem SlCh.w {w : World} {v : Value} {L : List Cha.Ch} (h : SlCh (fun b => b < w.heap.size) w v L) : SlW w v L :=
  Sl.monoR h fun _ _ ⟨u, e, h⟩ => ⟨u, e, h.mono fun _ h => h.lt⟩
theorem ChW.below {w w' : World} {cs : List Value} {x : Cha.Ch} (h : ChW w cs x) (hb : Below w.heap.size w w') : ChW w' cs x := by
  obtain ⟨u, e, h⟩ := h
  exact ⟨u, e, (SlI.keep h (Agree.below hb fun b h => h)).mono fun b h => Nat.lt_of_lt_of_le h hb.size⟩
theorem SlW.bel {w w' : World} {v : Value} {L : List Cha.Ch} (h : SlW w v L) (hb : Below w.heap.size w w') : SlW w' v L :=
  Sl.mono (Sl.keep h (Agree.below hb fun b h => h) fun _ _ h => h.below hb) fun b h => Nat.lt_of_lt_of_le h hb.size
theorem SlW.cap {w : World} {A : Option Addr} {n c : Nat} {L : List Cha.Ch} (h : SlW w (.slice A n c) L) : L.length ≤ c := by
  obtain ⟨A', c', e, h1, -⟩ := h
  injection e with e1 e2 e3
  rw [e3]; exact h1
/-- The first of a row. -/
theorem SlW.head {w : World} {A : Option Addr} {n c : Nat} {y : Cha.Ch} {L : List Cha.Ch} (h : SlW w (.slice A n c) (y :: L)) : SlW w (.slice A 1 c) [y] := by
  obtain ⟨A', c', e, h1, h2, h3⟩ := h
  injection e with e1 e2 e3
  subst e1 e3
  refine ⟨A, c, rfl, ?_, by simp, fun i hi => ?_⟩
  · rw [List.length_cons] at h1; simp; omega
  · obtain rfl : i = 0 := by simpa using hi
    exact h3 0 (by simp)
/-- A chain's couplers in a later world; a row of one chain that was just made. -/
theorem ChW.slI {w0 W : World} {u : Value} {ys : List Int} (h : SlI (fun b => b < w0.heap.size) w0 u ys) (hb : Below w0.heap.size w0 W) : SlI (fun b => b < W.heap.size) W u ys :=
  (SlI.keep h (Agree.below hb fun b h => h)).mono fun b h => Nat.lt_of_lt_of_le h hb.size
theorem SlW.new {w0 : World} {cs : List Value} {y : Cha.Ch} {t : TypeId} (h : ∀ W, Below w0.heap.size w0 W → ChW W cs y) (w : World) (hb : Below w0.heap.size w0 w) :
    SlW (w.alloc (.cells cs.toArray t)) (.slice (some ⟨w.heap.size, 0, none⟩) 1 1) [y] := by
  have h1 := h _ (Ba hb (.cells cs.toArray t))
  refine ⟨_, 1, rfl, by simp, by simp, fun i hi => ?_⟩
  obtain rfl : i = 0 := by simpa using hi
  refine ⟨⟨w.heap.size, 0, none⟩, cs, rfl, ?_, ?_, h1, ?_⟩
  · show w.heap.size < (w.alloc _).heap.size
    rw [World.size_alloc]
    exact Nat.lt_succ_self _
  · obtain ⟨u, rfl, -⟩ := h1
    rfl
  · rw [Nat.zero_mul, show (⟨w.heap.size, 0, none⟩ : Addr).add 0 = ⟨w.heap.size, 0, none⟩ from rfl]
    exact Flds.new w cs t
set_option maxRecDepth 100000 in
set_option maxHeartbeats 4000000 in
theorem same_self (v u : Value) (L : List Cha.Ch) (w : World) (hv : SlW w v L) (hu : SlW w u L) :
    Calls Tryd.prog 34 #[v, u] w fun e w' => e = .returned (.bool true) ∧ Below w.heap.size w w' := by
  obtain ⟨A, c, rfl, -, hlen, hat⟩ := id hv
  obtain ⟨A2, c2, rfl, -, -, hat2⟩ := id hu
  obtain ⟨n, hn⟩ : ∃ n, L.length = n := ⟨_, rfl⟩
  have HN := Lib.hid hn
  have HAT := Lib.hid hat
  have HAT2 := Lib.hid hat2
  rw [hn] at hlen ⊢
  have g0 : (((n : Nat) : Int) != n) = false := by simp
  clear hat hat2 hn hv hu
  go_enter Tryd.func34, Tryd.ntmps34
  go_wp2_with fail
  clear g0
  go_loopg [5] n (fun gg s5 wr => ∃ k : Nat, k ≤ n ∧ n - k ≤ gg ∧ s5 = .int .i64 k ∧ Aside (Below w.heap.size w wr))
  case atStart => exact ⟨0, by omega, by omega, rfl, B0 w⟩
  case round =>
    obtain ⟨k, hk, hg, rfl, HB⟩ := hrel
    replace HB : Hid (Below w.heap.size w wr) := Lib.hid HB
    by_cases hlt : k < n
    · have hkI : (k : Int) < n := by omega
      have hkL : k < L.length := by rw [HN.out]; exact hlt
      obtain ⟨ad, cs, rfl, hb, -, ⟨u1, rfl, hu1⟩, hfl⟩ := HAT.out k hkL
      obtain ⟨ad2, cs2, rfl, hb2, -, ⟨u2, rfl, hu2⟩, hfl2⟩ := HAT2.out k hkL
      have hb' : (ad.add (k * 3)).block < w.heap.size := by rw [block_of_add]; exact hb
      have hb2' : (ad2.add (k * 3)).block < w.heap.size := by rw [block_of_add]; exact hb2
      obtain ⟨z, hz⟩ : ∃ z, L[k] = z := ⟨_, rfl⟩
      rw [hz] at hu1 hu2 hfl hfl2
      obtain ⟨zs, z1, z2⟩ := z
      dsimp only at hu1 hu2 hfl hfl2
      have kc0 : ∀ q : ClsS wr, q.w.cell? (ad.add (k * 3)) = some u1 := fun q => (hfl.below (Bt HB.out q.b) hb').f0 rfl
      have kc1 : ∀ q : ClsS wr, q.w.cell? ⟨(ad.add (k * 3)).block, (ad.add (k * 3)).off + 1, none⟩ = some (.int .i64 z1) := fun q => (hfl.below (Bt HB.out q.b) hb').f1 rfl
      have kc2 : ∀ q : ClsS wr, q.w.cell? ⟨(ad.add (k * 3)).block, (ad.add (k * 3)).off + 2, none⟩ = some (.int .i64 z2) := fun q => (hfl.below (Bt HB.out q.b) hb').f2 rfl
      have kd0 : ∀ q : ClsS wr, q.w.cell? (ad2.add (k * 3)) = some u2 := fun q => (hfl2.below (Bt HB.out q.b) hb2').f0 rfl
      have kd1 : ∀ q : ClsS wr, q.w.cell? ⟨(ad2.add (k * 3)).block, (ad2.add (k * 3)).off + 1, none⟩ = some (.int .i64 z1) := fun q => (hfl2.below (Bt HB.out q.b) hb2').f1 rfl
      have kd2 : ∀ q : ClsS wr, q.w.cell? ⟨(ad2.add (k * 3)).block, (ad2.add (k * 3)).off + 2, none⟩ = some (.int .i64 z2) := fun q => (hfl2.below (Bt HB.out q.b) hb2').f2 rfl
      have hs1 : ∀ q : ClsS wr, SlI (fun b => b < q.w.heap.size) q.w u1 zs := fun q => (SlI.keep hu1 (Agree.below (Bt HB.out q.b) fun b h => h)).mono fun b h => Nat.lt_of_lt_of_le h (Bt HB.out q.b).size
      have hs2 : ∀ q : ClsS wr, SlI (fun b => b < q.w.heap.size) q.w u2 zs := fun q => (SlI.keep hu2 (Agree.below (Bt HB.out q.b) fun b h => h)).mono fun b h => Nat.lt_of_lt_of_le h (Bt HB.out q.b).size
      have hl1 : ∀ q : ClsS wr, Calls Tryd.prog 22 #[u1, u2] q.w fun e w' => e = .returned (.bool false) ∧ ∃ r : ClsS wr, w' = r.w := fun q => (less_any u1 u2 zs zs q.w _ (fun _ h => h) (hs1 q) (hs2 q)).mono fun e w' ⟨q1, q2⟩ => ⟨by rw [q1, Cha.lessF_irrefl], ClsS.mk' (Bt q.b q2), rfl⟩
      have hl2 : ∀ q : ClsS wr, Calls Tryd.prog 22 #[u2, u1] q.w fun e w' => e = .returned (.bool false) ∧ ∃ r : ClsS wr, w' = r.w := fun q => (less_any u2 u1 zs zs q.w _ (fun _ h => h) (hs2 q) (hs1 q)).mono fun e w' ⟨q1, q2⟩ => ⟨by rw [q1, Cha.lessF_irrefl], ClsS.mk' (Bt q.b q2), rfl⟩
      have HL1 := Lib.hid hl1
      have HL2 := Lib.hid hl2
      obtain ⟨Au, cu, hue, -, -⟩ := SlI.open hu1
      obtain ⟨Av, cv, hve, -, -⟩ := SlI.open hu2
      obtain ⟨m, hm⟩ : ∃ m, zs.length = m := ⟨_, rfl⟩
      rw [hm] at hue hve
      subst hue hve
      clear hl1 hl2 hs1 hs2 hu1 hu2 hfl hfl2 hz hb hb2 hb' hb2' hm
      go_upto_region 6 with fail
      refine wp_region_classS (C := fun w' => ∃ q : ClsS wr, w' = q.w) (by kernel_rfl) (by kernel_rfl) ⟨ClsS.mk' (B0 wr).drew, rfl⟩ ?_
      repeat (any_goals (first | go_big_quiet_step (first | (go_at_call 22; with_reducible exact HL1.out _) | (go_at_call 22; with_reducible exact HL2.out _)) | quiet_step (first | (go_at_call 22; with_reducible exact HL1.out _) | (go_at_call 22; with_reducible exact HL2.out _))))
      refine wpQuiet_nil ?_
      rintro _ ⟨q, rfl⟩
      have HB5 := Lib.hid (Bt HB.out q.b)
      clear kc0 kc1 kc2 kd0 kd1 kd2
      generalize q.w = w5 at *
      go_wp2_with fail
      go_roundg (n - (k + 1))
      case measure => omega
      case rel => exact ⟨k + 1, by omega, by omega, by go_num, HB5.out⟩
    · obtain rfl : k = n := by omega
      go_wp2_with fail
      go_ret
      exact ⟨rfl, HB.out⟩
end Go.Proofs.YtahlfndlkfoikaaDoor
