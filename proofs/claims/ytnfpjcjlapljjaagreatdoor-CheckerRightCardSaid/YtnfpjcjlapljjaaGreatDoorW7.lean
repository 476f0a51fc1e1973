/- Walks: the example of the statement's known. Walks: Divides at the empty partition; the statement's known. Walks: the statement's known. -/
import Derived.Test.YtnfpjcjlapljjaaGreatDoorW5
import Derived.BigQuiet
import Derived.BigGuardPart
namespace Go.Proofs.YtnfpjcjlapljjaaGreatDoor
open Go Go.RowKit

def netA : Net := ⟨[⟨1, 0, []⟩, ⟨1, 1, []⟩, ⟨3, 0, [0, 1]⟩], [2]⟩
def netB : Net := ⟨[⟨1, 0, []⟩, ⟨1, 1, []⟩, ⟨2, 0, [0]⟩, ⟨2, 0, [1]⟩, ⟨4, 0, [2, 3]⟩, ⟨2, 0, [4]⟩], [5]⟩

/-- A slice over a block that is known whole. -/
theorem Sl.of_blk54 {α : Type} {F : Nat → Prop} {k : Nat} {R : World → List Value → α → Prop} {w : World} {b : Nat} {t : TypeId} {l : List α} (cs : List (List Value)) (hb : w.heap[b]? = some (.cells cs.flatten.toArray t (0, 0))) (hF : F b) (hl : l.length ≤ 1000000)
    (hcl : cs.length = l.length) (hR : ∀ i (hi : i < l.length), ∃ c, cs[i]? = some c ∧ c.length = k ∧ R w c l[i]) (hk : cs.flatten.length = l.length * k) : Sl F k R w (.slice (some ⟨b, 0, none⟩) l.length l.length) l := by
  refine Sl.of_own (base := b) (e := t) (n := l.length) (xs := cs.flatten) ⟨hk, .inr ⟨b, l.length, cs.flatten.toArray, rfl, Nat.le_refl _, hb, Nat.le_refl _, by unfold maxLen; omega, by simpa using hk, ?_⟩⟩ rfl (by omega) rfl hcl hR (fun c h1 h2 h3 => by simp [Value.ownBlock] at h3; subst h3; exact hF)
  simp only [List.toList_toArray]
  rw [← hk, List.take_length]

theorem ints_blk {F : Nat → Prop} {w : World} {b : Nat} (l : List Int) (hb : w.heap[b]? = some (.cells (l.map (Value.int .i64)).toArray 3 (0, 0))) (hF : F b) (hl : l.length ≤ 1000000) : SlI F w (.slice (some ⟨b, 0, none⟩) l.length l.length) l := by
  have hf : ∀ l : List Int, (l.map fun x => [Value.int .i64 x]).flatten = l.map (Value.int .i64) := fun l => by
    induction l with
    | nil => rfl
    | cons x l ih => simp only [List.map_cons, List.flatten_cons, ih]; rfl
  exact Sl.of_blk54 (l.map fun x => [.int .i64 x]) (by rw [hf]; exact hb) hF hl (by simp) (fun i hi => ⟨[.int .i64 l[i]], by simp [hi], rfl, rfl⟩) (by rw [hf]; simp)

theorem heap_alloc_at (w : World) (o : Obj) (b : Nat) (h : b = w.heap.size) : (w.alloc o).heap[b]? = some o := by subst h; exact heap_alloc_new w o
theorem netA_at {w W : World} (s : w.heap.size + 3 < W.heap.size) (h1 : W.heap[w.heap.size + 1]? = some (.cells #[.int .i64 0, .int .i64 1] 3 (0, 0)))
    (h2 : W.heap[w.heap.size + 1 + 1]? = some (.cells #[.int .i64 1, .int .i64 0, .slice none 0 0, .int .i64 1, .int .i64 1, .slice none 0 0, .int .i64 3, .int .i64 0, .slice (some ⟨w.heap.size + 1, 0, none⟩) 2 2] 127 (0, 0)))
    (h3 : W.heap[w.heap.size + 1 + 1 + 1]? = some (.cells #[.int .i64 2] 3 (0, 0))) : NetAt (New w.heap.size W.heap.size) W (.slice (some ⟨w.heap.size + 1 + 1, 0, none⟩) 3 3) (.slice (some ⟨w.heap.size + 1 + 1 + 1, 0, none⟩) 1 1) netA := by
  refine ⟨?_, ints_blk [2] h3 ⟨by omega, by omega⟩ (by decide)⟩
  refine Sl.of_blk54 (l := netA.gates) (t := 127) [[.int .i64 1, .int .i64 0, .slice none 0 0], [.int .i64 1, .int .i64 1, .slice none 0 0], [.int .i64 3, .int .i64 0, .slice (some ⟨w.heap.size + 1, 0, none⟩) 2 2]] h2 ⟨by omega, by omega⟩ (by decide) rfl (fun i hi => ?_) rfl
  have hi' : i < 3 := hi
  match i, hi' with
  | 0, _ => exact ⟨_, rfl, rfl, _, rfl, Sl.nil_⟩
  | 1, _ => exact ⟨_, rfl, rfl, _, rfl, Sl.nil_⟩
  | 2, _ => exact ⟨_, rfl, rfl, _, rfl, ints_blk [0, 1] h1 ⟨by omega, by omega⟩ (by decide)⟩
theorem netB_at {w W : World} (s : w.heap.size + 6 < W.heap.size) (h1 : W.heap[w.heap.size + 1]? = some (.cells #[.int .i64 0] 3 (0, 0))) (h2 : W.heap[w.heap.size + 1 + 1]? = some (.cells #[.int .i64 1] 3 (0, 0)))
    (h3 : W.heap[w.heap.size + 1 + 1 + 1]? = some (.cells #[.int .i64 2, .int .i64 3] 3 (0, 0))) (h4 : W.heap[w.heap.size + 1 + 1 + 1 + 1]? = some (.cells #[.int .i64 4] 3 (0, 0)))
    (h5 : W.heap[w.heap.size + 1 + 1 + 1 + 1 + 1]? = some (.cells #[.int .i64 1, .int .i64 0, .slice none 0 0, .int .i64 1, .int .i64 1, .slice none 0 0, .int .i64 2, .int .i64 0, .slice (some ⟨w.heap.size + 1, 0, none⟩) 1 1, .int .i64 2, .int .i64 0, .slice (some ⟨w.heap.size + 1 + 1, 0, none⟩) 1 1,
      .int .i64 4, .int .i64 0, .slice (some ⟨w.heap.size + 1 + 1 + 1, 0, none⟩) 2 2, .int .i64 2, .int .i64 0, .slice (some ⟨w.heap.size + 1 + 1 + 1 + 1, 0, none⟩) 1 1] 127 (0, 0)))
    (h6 : W.heap[w.heap.size + 1 + 1 + 1 + 1 + 1 + 1]? = some (.cells #[.int .i64 5] 3 (0, 0))) :
    NetAt (New w.heap.size W.heap.size) W (.slice (some ⟨w.heap.size + 1 + 1 + 1 + 1 + 1, 0, none⟩) 6 6) (.slice (some ⟨w.heap.size + 1 + 1 + 1 + 1 + 1 + 1, 0, none⟩) 1 1) netB := by
  refine ⟨?_, ints_blk [5] h6 ⟨by omega, by omega⟩ (by decide)⟩
  refine Sl.of_blk54 (l := netB.gates) (t := 127) [[.int .i64 1, .int .i64 0, .slice none 0 0], [.int .i64 1, .int .i64 1, .slice none 0 0], [.int .i64 2, .int .i64 0, .slice (some ⟨w.heap.size + 1, 0, none⟩) 1 1], [.int .i64 2, .int .i64 0, .slice (some ⟨w.heap.size + 1 + 1, 0, none⟩) 1 1],
    [.int .i64 4, .int .i64 0, .slice (some ⟨w.heap.size + 1 + 1 + 1, 0, none⟩) 2 2], [.int .i64 2, .int .i64 0, .slice (some ⟨w.heap.size + 1 + 1 + 1 + 1, 0, none⟩) 1 1]] h5 ⟨by omega, by omega⟩ (by decide) rfl (fun i hi => ?_) rfl
  have hi' : i < 6 := hi
  match i, hi' with
  | 0, _ => exact ⟨_, rfl, rfl, _, rfl, Sl.nil_⟩
  | 1, _ => exact ⟨_, rfl, rfl, _, rfl, Sl.nil_⟩
  | 2, _ => exact ⟨_, rfl, rfl, _, rfl, ints_blk [0] h1 ⟨by omega, by omega⟩ (by decide)⟩
  | 3, _ => exact ⟨_, rfl, rfl, _, rfl, ints_blk [1] h2 ⟨by omega, by omega⟩ (by decide)⟩
  | 4, _ => exact ⟨_, rfl, rfl, _, rfl, ints_blk [2, 3] h3 ⟨by omega, by omega⟩ (by decide)⟩
  | 5, _ => exact ⟨_, rfl, rfl, _, rfl, ints_blk [4] h4 ⟨by omega, by omega⟩ (by decide)⟩

set_option maxRecDepth 100000 in
set_option maxHeartbeats 1000000 in
theorem gatesA (w : World) : Calls Tryz.prog 15 #[.bool false] w fun e w' => ∃ vg vo, e = .returned (.agg #[vg, vo]) ∧ NetAt (New w.heap.size w'.heap.size) w' vg vo netA ∧ Below w.heap.size w w' := by
  go_enter Tryz.func15, Tryz.ntmps15
  go_wp2
  refine bodyPost_ret (v := .agg #[.slice (some ⟨w.heap.size + 1 + 1, 0, none⟩) 3 3, .slice (some ⟨w.heap.size + 1 + 1 + 1, 0, none⟩) 1 1]) (by simp [results, Tryz.results15, go_sem]) rfl ?_
  refine ⟨_, _, rfl, netA_at (by simp) ?_ ?_ ?_, Ba (Ba (Ba (Ba (B0 w) _) _) _) _⟩
  all_goals repeat (first | exact heap_alloc_at _ _ _ (by simp) | rw [Below.heap_alloc _ _ _ (by simp)])

set_option maxRecDepth 100000 in
set_option maxHeartbeats 1000000 in
theorem gatesB (w : World) : Calls Tryz.prog 15 #[.bool true] w fun e w' => ∃ vg vo, e = .returned (.agg #[vg, vo]) ∧ NetAt (New w.heap.size w'.heap.size) w' vg vo netB ∧ Below w.heap.size w w' := by
  go_enter Tryz.func15, Tryz.ntmps15
  go_wp2
  refine bodyPost_ret (v := .agg #[.slice (some ⟨w.heap.size + 1 + 1 + 1 + 1 + 1, 0, none⟩) 6 6, .slice (some ⟨w.heap.size + 1 + 1 + 1 + 1 + 1 + 1, 0, none⟩) 1 1]) (by simp [results, Tryz.results15, go_sem]) rfl ?_
  refine ⟨_, _, rfl, netB_at (by simp) ?_ ?_ ?_ ?_ ?_ ?_, Ba (Ba (Ba (Ba (Ba (Ba (Ba (B0 w) _) _) _) _) _) _) _⟩
  all_goals repeat (first | exact heap_alloc_at _ _ _ (by simp) | rw [Below.heap_alloc _ _ _ (by simp)])

theorem sameAB : sameF 2 netA netB = true := by decide +kernel
theorem sameAB1 : sameF 1 netA netB = false := by decide +kernel

set_option maxRecDepth 100000 in
set_option maxHeartbeats 1000000 in
theorem valid_none (b : Nat) (w : World) (hb : b < w.heap.size) (hc : w.cell? ⟨b, 0, none⟩ = some (.int .i64 0)) :
    Calls Tryz.prog 37 #[.agg #[.slice none 0 0, .slice none 0 0, .slice none 0 0, .int .i64 0, .slice (some ⟨b, 0, none⟩) 1 1]] w fun e w' => e = .returned (.bool true) ∧ Below w.heap.size w w' := by
  go_enter Tryz.func37, Tryz.ntmps37
  go_wp2_with fail
  refine wp_loop_rounds 1 ?_
  rw [rounds_succ]
  go_wp2_with fail
  go_ret
  exact ⟨rfl, Ba (B0 w) _⟩
end Go.Proofs.YtnfpjcjlapljjaaGreatDoor
namespace Go.Proofs.YtnfpjcjlapljjaaGreatDoor
open Go Go.RowKit

theorem wp_region_class54_lit {P : Program} {C : World → Prop} {id : Nat} {Q : Exit → Act → World → Prop} {a : Act} {w : World} {l : List Oper} (hm : P.follows .mixedOrders = true) (hB : Region.lexB .any l.toArray = true) (hC : C { w with drawn := w.drawn + 1 })
    (h : wpQuiet P l.toArray C (fun a' => ∀ w', C w' → Q .normal a' w') l a) : (Code.region id l.toArray true).wp P Q a w :=
  wp_region_quiet (C := C) hm hB hC (by simpa using h)
/-- The worlds that leave all that was in w1. -/
def Cls54 (w1 : World) : Type := { x : World // Below w1.heap.size w1 x }
def Cls54.w {w1 : World} (q : Cls54 w1) : World := q.1
theorem Cls54.b {w1 : World} (q : Cls54 w1) : Below w1.heap.size w1 q.w := q.2
def Cls54.mk' {w1 w : World} (h : Below w1.heap.size w1 w) : Cls54 w1 := ⟨w, h⟩
instance (w1 : World) : Nonempty (Cls54 w1) := ⟨⟨w1, Below.refl _ _⟩⟩

set_option maxRecDepth 2000000 in
set_option maxHeartbeats 4000000 in
theorem divides_none (b : Nat) (w : World) (hb : b < w.heap.size) (hc : w.cell? ⟨b, 0, none⟩ = some (.int .i64 0)) :
    Calls Tryz.prog 13 #[.agg #[.slice none 0 0, .slice none 0 0, .slice none 0 0, .int .i64 0, .slice (some ⟨b, 0, none⟩) 1 1]] w fun e w' => e = .returned (.bool true) ∧ Below w.heap.size w w' := by
  have hw : ∀ W, w.heap.size < W.heap.size → Below w.heap.size w W → Calls Tryz.prog 21 #[.int .i64 0, .int .i64 100000, .slice (some ⟨b, 0, none⟩) 1 1] W fun e w' => e = .returned (.bool true) ∧ Below W.heap.size W w' := fun W hs h =>
    within_any 0 100000 _ [0] W (fun x => x = b) (by rintro x rfl; omega) (SlI.one ((Bc h hb).trans hc) rfl)
  have hv : ∀ W, Below w.heap.size w W → Calls Tryz.prog 37 #[.agg #[.slice none 0 0, .slice none 0 0, .slice none 0 0, .int .i64 0, .slice (some ⟨b, 0, none⟩) 1 1]] W fun e w' => e = .returned (.bool true) ∧ Below W.heap.size W w' := fun W h =>
    valid_none b W (Nat.lt_of_lt_of_le hb h.size) ((Bc h hb).trans hc)
  have HW := Lib.hid hw
  have HV := Lib.hid hv
  clear hw hv
  go_enter Tryz.func13, Tryz.ntmps13
  go_wp2_with fail
  obtain ⟨w1, hw1⟩ : ∃ w1 : World, w.alloc (.cells #[.slice none 0 0, .slice none 0 0, .slice none 0 0, .int .i64 0, .slice (some ⟨b, 0, none⟩) 1 1] 66) = w1 := ⟨_, rfl⟩
  have c0 : w1.cell? ⟨w.heap.size, 0, none⟩ = some (.slice none 0 0) := by rw [← hw1]; simp [go_sem]
  have c1 : w1.cell? ⟨w.heap.size, 1, none⟩ = some (.slice none 0 0) := by rw [← hw1]; simp [go_sem]
  have c2 : w1.cell? ⟨w.heap.size, 2, none⟩ = some (.slice none 0 0) := by rw [← hw1]; simp [go_sem]
  have c3 : w1.cell? ⟨w.heap.size, 3, none⟩ = some (.int .i64 0) := by rw [← hw1]; simp [go_sem]
  have c4 : w1.cell? ⟨w.heap.size, 4, none⟩ = some (.slice (some ⟨b, 0, none⟩) 1 1) := by rw [← hw1]; simp [go_sem]
  have cb : w1.cell? ⟨b, 0, none⟩ = some (.int .i64 0) := by rw [← hw1, World.cell?_alloc_past _ _ _ hb]; exact hc
  have s1 : w.heap.size < w1.heap.size := by rw [← hw1]; simp
  have B1 : Below w.heap.size w w1 := by rw [← hw1]; exact Ba (B0 w) _
  rw [hw1]
  clear hw1
  have sb : b < w1.heap.size := by omega
  have k0 : ∀ q : Cls54 w1, q.w.cell? ⟨w.heap.size, 0, none⟩ = some (.slice none 0 0) := fun q => (Bc q.b s1).trans c0
  have k1 : ∀ q : Cls54 w1, q.w.cell? ⟨w.heap.size, 1, none⟩ = some (.slice none 0 0) := fun q => (Bc q.b s1).trans c1
  have k2 : ∀ q : Cls54 w1, q.w.cell? ⟨w.heap.size, 2, none⟩ = some (.slice none 0 0) := fun q => (Bc q.b s1).trans c2
  have k3 : ∀ q : Cls54 w1, q.w.cell? ⟨w.heap.size, 3, none⟩ = some (.int .i64 0) := fun q => (Bc q.b s1).trans c3
  have k4 : ∀ q : Cls54 w1, q.w.cell? ⟨w.heap.size, 4, none⟩ = some (.slice (some ⟨b, 0, none⟩) 1 1) := fun q => (Bc q.b s1).trans c4
  have kb : ∀ q : Cls54 w1, q.w.cell? ⟨b, 0, none⟩ = some (.int .i64 0) := fun q => (Bc q.b sb).trans cb
  have hcall : ∀ q : Cls54 w1, Calls Tryz.prog 21 #[.int .i64 0, .int .i64 100000, .slice (some ⟨b, 0, none⟩) 1 1] q.w fun e w' => e = .returned (.bool true) ∧ ∃ r : Cls54 w1, w' = r.w := fun q =>
    (HW.out q.w (Nat.lt_of_lt_of_le s1 q.b.size) (Bt B1 q.b)).mono fun e w' ⟨q1, q2⟩ => ⟨q1, Cls54.mk' (Bt q.b q2), rfl⟩
  have B1H := Lib.hid B1
  have HCL := Lib.hid hcall
  clear s1 hb B1 c0 c1 c2 c3 c4 cb sb hcall
  refine wp_region_class54_lit (C := fun w' => ∃ q : Cls54 w1, w' = q.w) (by kernel_rfl) (by kernel_rfl) ⟨Cls54.mk' (B0 w1).drew, rfl⟩ ?_
  repeat (any_goals (first | go_big_quiet_step ((go_at_call 21; exact HCL.out _)) | quiet_step ((go_at_call 21; exact HCL.out _))))
  refine wpQuiet_nil ?_
  rintro _ ⟨q, rfl⟩
  have c0 := k0 q
  have c1 := k1 q
  have c2 := k2 q
  have c3 := k3 q
  have c4 := k4 q
  have B2 := Lib.hid (Bt B1H.out q.b)
  clear k0 k1 k2 k3 k4 kb
  generalize q.w = w5 at *
  go_wp2_with fail
  refine wp_loop_rounds 1 ?_
  rw [rounds_succ]
  go_wp2_with fail
  refine wp_loop_rounds 1 ?_
  rw [rounds_succ]
  go_wp2_with (go_at_call 37; refine (HV.out _ B2.out).mono ?_; rintro e w6 ⟨rfl, hb6⟩)
  go_ret
  exact ⟨rfl, Bt B2.out hb6⟩
end Go.Proofs.YtnfpjcjlapljjaaGreatDoor
namespace Go.Proofs.YtnfpjcjlapljjaaGreatDoor
open Go Go.RowKit

set_option maxRecDepth 100000 in
set_option maxHeartbeats 4000000 in
theorem known54_any (w : World) : Calls Tryz.prog 4 #[] w fun e w' => e = .returned (.bool true) ∧ Below w.heap.size w w' := by
  go_enter Tryz.func4, Tryz.ntmps4
  go_wp2_with fail
  refine (divides_none w.heap.size _ (by simp; omega) (by simp [go_sem])).mono ?_
  rintro e w1 ⟨rfl, hb1⟩
  have B1 : Below w.heap.size w w1 := Bt (Ba (Ba (B0 w) _) _) hb1
  clear hb1
  go_wp2_with fail
  refine (gatesA _).mono ?_
  rintro e w2 ⟨ga, oa, rfl, ha, hb2⟩
  go_wp2_with fail
  refine (gatesB _).mono ?_
  rintro e w3 ⟨gb, ob, rfl, hb, hb3⟩
  have ha3 := (ha.keep (Agree.below hb3 fun x hx => hx.2)).mono (G := fun x => x < w3.heap.size) fun x hx => Nat.lt_of_lt_of_le hx.2 hb3.size
  have hb3' := hb.mono (G := fun x => x < w3.heap.size) fun x hx => hx.2
  have H3 := Lib.hid (same54_any 2 (by omega) ga oa gb ob netA netB w3 (fun x => x < w3.heap.size) (fun x hx => hx) ha3 hb3' (by decide))
  have B3 : Below w.heap.size w w3 := Bt (Bt B1 hb2) hb3
  clear ha hb hb2 hb3 ha3 hb3'
  go_wp2_with fail
  refine H3.out.mono ?_
  rw [sameAB]
  rintro e w4 ⟨rfl, hb4⟩
  have B4 : Below w.heap.size w w4 := Bt B3 hb4
  clear hb4 B3 B1 H3
  go_wp2_with fail
  refine (gatesA _).mono ?_
  rintro e w5 ⟨gc, oc, rfl, hc, hb5⟩
  go_wp2_with fail
  refine (gatesB _).mono ?_
  rintro e w6 ⟨gd, od, rfl, hd, hb6⟩
  have hc6 := (hc.keep (Agree.below hb6 fun x hx => hx.2)).mono (G := fun x => x < w6.heap.size) fun x hx => Nat.lt_of_lt_of_le hx.2 hb6.size
  have hd6 := hd.mono (G := fun x => x < w6.heap.size) fun x hx => hx.2
  have H6 := Lib.hid (same54_any 1 (by omega) gc oc gd od netA netB w6 (fun x => x < w6.heap.size) (fun x hx => hx) hc6 hd6 (by decide))
  have B6 : Below w.heap.size w w6 := Bt (Bt B4 hb5) hb6
  clear hc hd hb5 hb6 hc6 hd6 B4
  go_wp2_with fail
  refine H6.out.mono ?_
  rw [sameAB1]
  rintro e w7 ⟨rfl, hb7⟩
  have B7 : Below w.heap.size w w7 := Bt B6 hb7
  clear hb7 B6 H6
  go_wp2_with fail
  go_ret
  exact ⟨rfl, B7⟩
end Go.Proofs.YtnfpjcjlapljjaaGreatDoor
