/- Words for drawn regions: a call that makes memory, its result a plain value. -/
import Derived.Test.YtdgnpcmaipnfhaaDoorH7
import Derived.BigQuiet
import Derived.BigGuardPart
namespace Go.Proofs.YtdgnpcmaipnfhaaDoor
open Go Go.RowKit
theorem wp_region_class_lit {P : Program} {C : World → Prop} {id : Nat} {Q : Exit → Act → World → Prop} {a : Act} {w : World} {l : List Oper} (hm : P.follows .mixedOrders = true) (hB : Region.lexB .any l.toArray = true) (hC : C { w with drawn := w.drawn + 1 })
    (h : wpQuiet P l.toArray C (fun a' => ∀ w', C w' → Q .normal a' w') l a) : (Code.region id l.toArray true).wp P Q a w :=
  wp_region_quiet (C := C) hm hB hC (by simpa using h)
/-- The worlds that leave all that was in w1. -/
def Cls (w1 : World) : Type := { x : World // Below w1.heap.size w1 x }
def Cls.w {w1 : World} (q : Cls w1) : World := q.1
theorem Cls.b {w1 : World} (q : Cls w1) : Below w1.heap.size w1 q.w := q.2
def Cls.mk' {w1 w : World} (h : Below w1.heap.size w1 w) : Cls w1 := ⟨w, h⟩
instance (w1 : World) : Nonempty (Cls w1) := ⟨⟨w1, Below.refl _ _⟩⟩
set_option maxRecDepth 200000 in
set_option maxHeartbeats 4000000 in
theorem reduceR_any (n : Int) (vs vl : Value) (ws : List Nat) (hw : ∀ s ∈ ws, s < 4294967296) (ns : List Nat) (hns : ∀ x ∈ ns, x < 32) (w : World) (F G : Nat → Prop) (hF : ∀ b, F b → b < w.heap.size) (hG : ∀ b, G b → b < w.heap.size) (hr : SlII F w vs (setsOf ws)) (hl : SlI G w vl (Hit.ints ns)) :
    Calls Tryd.prog 12 #[.agg #[.int .i64 n, vs], vl] w fun e w' => ∃ A m c, e = .returned (.slice A m c) ∧ m = (Hit.members (Hit.reduce ws (Hit.word ns) ns)).length ∧ Own0 w' w.heap.size 3 1 A m c (cellsV vN (Hit.members (Hit.reduce ws (Hit.word ns) ns))) ∧ Below w.heap.size w w' := by
  have hM : ∀ W x, x < 4294967296 → Below w.heap.size w W → Calls Tryd.prog 9 #[.agg #[.int .i64 n, vs], .int .u64 ((x : Nat) : Int)] W fun e w' => e = .returned (.int .i64 (missF ws x)) ∧ Below W.heap.size W w' :=
    fun W x hx hW => missedR_any n vs ws hw x hx W F (fun b hb => Nat.lt_of_lt_of_le (hF b hb) hW.size) (hr.keep (Agree.below hW hF))
  have hD : ∀ W, Below w.heap.size w W → Calls Tryd.prog 10 #[vl] W fun e w' => e = .returned (.int .u64 (Hit.word ns : Nat)) ∧ W = w' :=
    fun W hW => bits_any vl ns (fun x hx => by have := hns x hx; omega) W G (hl.keep (Agree.below hW hG))
  obtain ⟨As, cs, rfl, _⟩ := hr.open
  obtain ⟨Al, cl, rfl, _, hll, hlat⟩ := hl.open
  rw [ints_length] at *
  have hx32 : Hit.word ns < 4294967296 := Hit.word_lt (k := 32) hns
  have hsub : ∀ k, Hit.reduce ws (Hit.word ns) (ns.take k) < 4294967296 := fun k => Hit.sub_lt (k := 32) (Hit.reduce_sub ws _ _) hx32
  have HM := Lib.hid hM
  have HD := Lib.hid hD
  clear hM hD hr hl hw
  go_enter Tryd.func12, Tryd.ntmps12
  go_wp2_with fail
  refine (HD.out _ (Ba (B0 w) _)).mono ?_
  rintro e w1' ⟨rfl, rfl⟩
  obtain ⟨w1, hw1⟩ : ∃ w1 : World, w.alloc (.cells #[.int .i64 n, .slice As (setsOf ws).length cs] 38) = w1 := ⟨_, rfl⟩
  have c0 : w1.cell? ⟨w.heap.size, 0, none⟩ = some (.int .i64 n) := by rw [← hw1]; simp [go_sem]
  have c1 : w1.cell? ⟨w.heap.size, 1, none⟩ = some (.slice As (setsOf ws).length cs) := by rw [← hw1]; simp [go_sem]
  have s1 : w.heap.size < w1.heap.size := by rw [← hw1]; simp
  have B1 : Below w.heap.size w w1 := by rw [← hw1]; exact Ba (B0 w) _
  rw [hw1]
  clear hw1
  have HB1 := Lib.hid B1
  have C0 := Lib.hid c0
  have C1 := Lib.hid c1
  clear B1 c0 c1
  generalize hxw : Hit.word ns = x at *
  have HXW := Lib.hid hxw
  clear hxw hx32
  go_wp2_with fail
  go_loopg [5, 6] ns.length (fun gg s5 s6 wr => ∃ k : Nat, k ≤ ns.length ∧ ns.length - k ≤ gg ∧ s6 = .int .i64 k ∧ s5 = .int .u64 (Hit.reduce ws x (ns.take k) : Nat) ∧ Aside (Below w1.heap.size w1 wr))
  case atStart => exact ⟨0, by omega, by omega, rfl, rfl, B0 w1⟩
  case round =>
    obtain ⟨k, hk, hg, rfl, rfl, HB⟩ := hrel
    by_cases hlt : k < ns.length
    · have hki : decide ((k : Int) < ns.length) = true := decide_eq_true (by omega)
      have hki2 : (k : Int) < ns.length := by omega
      obtain ⟨ad, rfl, hf, hc⟩ := hlat k (by rw [ints_length]; exact hlt)
      rw [ints_get] at hc
      have hBw := Bt HB1.out HB.out
      have hx := hns ns[k] (List.getElem_mem hlt)
      have hs := reduce_step ws x ns k hlt
      have h1 := Hit.two_u64w ns[k] (by omega)
      have h2 := Hit.u64_andn _ _ (show Hit.reduce ws x (ns.take k) < 2 ^ 64 by have := hsub k; omega) (Hit.bit_lt (show ns[k] < 64 by omega))
      have h3 : Hit.andn (Hit.reduce ws x (ns.take k)) (Hit.bit ns[k]) < 4294967296 := Hit.andn_lt (k := 32) (hsub k)
      have hneg := missF_neg ws (Hit.andn (Hit.reduce ws x (ns.take k)) (Hit.bit ns[k]))
      rw [← h1] at h2
      have h5 : ((ns[k] : Nat) : Int) % 18446744073709551616 = ns[k] := by omega
      have h6 : min ns[k] 64 = ns[k] := by omega
      have HS := Lib.hid hs
      have H3 := Lib.hid h3
      have HNG := Lib.hid hneg
      generalize Hit.andn (Hit.reduce ws x (ns.take k)) (Hit.bit ns[k]) = z at *
      have H2 := Lib.hid h2
      generalize Hit.reduce ws x (ns.take k) = lf at *
      generalize ns[k] = y at *
      have kc : ∀ q : Cls wr, q.w.cell? (ad.add k) = some (.int .i64 y) := fun q => ((Bt hBw q.b).cell (p := ad.add k) (by rw [block_of_add]; exact hG _ hf)).trans hc
      have k0 : ∀ q : Cls wr, q.w.cell? ⟨w.heap.size, 0, none⟩ = some (.int .i64 n) := fun q => (Bc (Bt HB.out q.b) s1).trans C0.out
      have k1 : ∀ q : Cls wr, q.w.cell? ⟨w.heap.size, 1, none⟩ = some (.slice As (setsOf ws).length cs) := fun q => (Bc (Bt HB.out q.b) s1).trans C1.out
      have hcall : ∀ q : Cls wr, Calls Tryd.prog 9 #[.agg #[.int .i64 n, .slice As (setsOf ws).length cs], .int .u64 (z : Int)] q.w fun e w' => e = .returned (.int .i64 (missF ws z)) ∧ ∃ r : Cls wr, w' = r.w := fun q =>
        (HM.out q.w z H3.out (Bt hBw q.b)).mono fun e w' ⟨q1, q2⟩ => ⟨q1, Cls.mk' (Bt q.b q2), rfl⟩
      have HCL := Lib.hid hcall
      clear hlat hns hsub h1 hs h3 hc hneg h2 hBw hcall
      have h2 := H2.out
      have hfin : ∃ b : Bool, decide (missF ws z < 0) = b ∧ Hit.reduce ws x (ns.take (k + 1)) = (if b then z else lf) := by
        cases hz : Hit.hit ws z with
        | true => exact ⟨true, decide_eq_true (HNG.out.2 hz), by rw [HS.out, hz]⟩
        | false => exact ⟨false, decide_eq_false (fun h => by rw [HNG.out.1 h] at hz; cases hz), by rw [HS.out, hz]⟩
      obtain ⟨b, hd2, hS⟩ := hfin
      have HS2 := Lib.hid hS
      generalize missF ws z = ms2 at *
      clear hS HS
      go_wp2_with fail
      refine wp_region_class_lit (C := fun w' => ∃ q : Cls wr, w' = q.w) (by kernel_rfl) (by kernel_rfl) ⟨Cls.mk' (B0 wr).drew, rfl⟩ ?_
      repeat (any_goals (first | go_big_quiet_step ((go_at_call 9; exact HCL.out _)) | quiet_step ((go_at_call 9; exact HCL.out _))))
      refine wpQuiet_nil ?_
      rintro _ ⟨q, rfl⟩
      have hc5 := kc q
      have B5 := Lib.hid (Bt HB.out q.b)
      clear kc k0 k1
      generalize q.w = w5 at *
      cases b
      all_goals
        go_wp2
        go_roundg (ns.length - (k + 1))
        case measure => omega
        case rel => exact ⟨k + 1, by omega, by omega, by go_num, by rw [HS2.out]; rfl, B5.out⟩
    · have hki : decide ((k : Int) < ns.length) = false := decide_eq_false (by omega)
      have : k = ns.length := by omega
      subst this
      have hlast := hsub ns.length
      rw [List.take_length] at hlast ⊢
      have hN := members_any _ hlast wr
      have HN := Lib.hid hN
      generalize hrr : Hit.reduce ws x ns = r at *
      have HRR := Lib.hid hrr
      have HBw := Lib.hid (Bt HB1.out HB.out)
      clear hlat hns hsub hlast hN hrr
      go_wp2_with fail
      refine HN.out.mono ?_
      rintro e w6 ⟨A6, n6, c6, rfl, hn6, hO6, hb6⟩
      have Q0 := Lib.hid hn6
      have Q1 := Lib.hid (hO6.more HBw.out.size)
      have Q2 := Lib.hid (Bt HBw.out hb6)
      clear hn6 hO6 hb6
      go_wp2
      go_ret
      exact ⟨A6, n6, c6, rfl, by rw [HXW.out, HRR.out]; exact Q0.out, by rw [HXW.out, HRR.out]; exact Q1.out, Q2.out⟩
end Go.Proofs.YtdgnpcmaipnfhaaDoor
