/- Walks over coupler: Matrix. -/
import Derived.Test.YtnkjhppjjklgfaaDoorKk
namespace Go.Proofs.YtnkjhppjjklgfaaDoor
open Go Go.RowKit Go.Shelf
/-- What a matrix says. -/
def MatOk (a : Cou.Ac) (M : List (List Bool)) : Prop := M.length = a.divs.length ∧ (∀ r ∈ M, r.length = a.divs.length) ∧ ∀ i j : Nat, Cou.getM M i j = true ↔ ∃ c, Cou.InA a c ∧ c.1 = i ∧ ∃ t, Cou.Hop a [c] t ∧ t.1 = j
/-- All that lies off some blocks is as it was. -/
structure Off (gs : List Nat) (w w' : World) : Prop where
  os : w'.os = w.os
  tape : w'.tape = w.tape
  output : w'.output = w.output
  size : w.heap.size ≤ w'.heap.size
  block : ∀ b, b < w.heap.size → b ∉ gs → w'.heap[b]? = w.heap[b]?
theorem Off.refl (gs : List Nat) (w : World) : Off gs w w := ⟨rfl, rfl, rfl, Nat.le_refl _, fun _ _ _ => rfl⟩
theorem Off.trans {gs : List Nat} {a b c : World} (h : Off gs a b) (k : Off gs b c) : Off gs a c := ⟨k.os.trans h.os, k.tape.trans h.tape, k.output.trans h.output, Nat.le_trans h.size k.size, fun i hi hn => (k.block i (Nat.lt_of_lt_of_le hi h.size) hn).trans (h.block i hi hn)⟩
theorem Off.of_below {gs : List Nat} {w w' : World} (h : Below w.heap.size w w') : Off gs w w' := ⟨h.os, h.tape, h.output, h.size, fun b hb _ => h.block b hb⟩
theorem Off.set {gs : List Nat} {w : World} {p : Addr} (hp : p.block ∈ gs) (u : Value) : Off gs w (w.setCell p u) := ⟨rfl, rfl, rfl, by simp, fun b _ hn => Below.heap_setCell w p u b fun e => hn (by rw [e]; exact hp)⟩
theorem Off.below {gs : List Nat} {B : Nat} {w0 w w' : World} (h : Off gs w w') (hb : Below B w0 w) (hB : B ≤ w.heap.size) (hg : ∀ g ∈ gs, B ≤ g) : Below B w0 w' :=
  hb.trans ⟨h.os, h.tape, h.output, h.size, fun k hk => h.block k (by omega) fun hm => by have := hg k hm; omega⟩
theorem Off.blk {gs : List Nat} {w w' : World} {g : Nat} {t : TypeId} {cs : Array Value} (h : Off gs w w') (hb : Blk w g t cs) (hn : g ∉ gs) : Blk w' g t cs := (h.block g hb.lt hn).trans hb
theorem cell_lt {w : World} {p : Addr} {u : Value} (h : w.cell? p = some u) : p.block < w.heap.size := by
  rcases Nat.lt_or_ge p.block w.heap.size with q | q
  · exact q
  · unfold World.cell? at h
    rw [Array.getElem?_eq_none q] at h
    cases h
theorem hmkBool (n : Nat) (hn : n ≤ 1000) (W : World) : (Instr.makeSlice 56 (.int .i64 (n : Int)) (.int .i64 (n : Int))).run Tryd.prog W = .ok (.slice (some ⟨W.heap.size, 0, none⟩) n n) (W.alloc (.cells (List.replicate n (.bool false)).toArray 4)) :=
  run_make1 Tryd.underlying56 (show (Tryd.prog.info? 4).map (fun i => (i.zero, i.size, i.bytes)) = some (some (.bool false), 1, 1) by kernel_rfl) rfl _ n rfl (by omega) (by omega) W
set_option maxRecDepth 100000 in
set_option maxHeartbeats 4000000 in
theorem Matrix_ok (a : Cou.Ac) (hr : Cou.rightF a = 0) (vd vc : Value) (hdr : a.drawn < 2 ^ 64) (w : World) (F : Nat → Prop) (hA : AcAt F w vd vc a) (hT : Tab64 w) (hg0 : 0 < w.heap.size) :
    Calls Tryd.prog 19 #[.agg #[vd, vc, .int .u64 a.drawn]] w fun e w' => ∃ v M, e = .returned (.tuple #[v, .int .i64 0]) ∧ SlBB (fun b => w.heap.size ≤ b) w' v M ∧ MatOk a M ∧ Below w.heap.size w w' := by
  have hok := Cou.right_ok hr
  obtain ⟨Ad, cd, hvd, _, _⟩ := id hA.dv.open
  subst hvd
  obtain ⟨ab, hab⟩ : ∃ ab, w.heap.size = ab := ⟨_, rfl⟩
  obtain ⟨w1, hw1⟩ : ∃ w1 : World, w.alloc (.cells #[.slice Ad a.divs.length cd, vc, .int .u64 a.drawn] 34) = w1 := ⟨_, rfl⟩
  have B1 : Below w.heap.size w w1 := by rw [← hw1]; exact Ba (B0 w) _
  have A1 : Blk w1 ab 34 #[.slice Ad a.divs.length cd, vc, .int .u64 a.drawn] := by rw [← hw1, ← hab]; exact Blk.new _ _ _
  have s1 : w1.heap.size = ab + 1 := by rw [← hw1, ← hab]; simp
  have hF := hA.inW
  have HRT := Lib.hid (right_any a (.slice Ad a.divs.length cd) vc hdr w1 F (hA.onB hF B1))
  rw [hr] at HRT
  have HCN := Lib.hid (fun W (hb : Below w.heap.size w W) => contacts_any a hok (.slice Ad a.divs.length cd) vc W F (hA.onB hF hb))
  have hHRE : ∀ (c : Cou.Ct) (_ : CtS c) (W : World) (_ : Below w.heap.size w W), Calls Tryd.prog 38 #[.agg #[.slice Ad a.divs.length cd, vc, .int .u64 a.drawn], .slice (some ⟨W.heap.size, 0, none⟩) 1 1] (W.alloc (.cells #[.int .i64 c.1, .int .i64 c.2] 28)) fun e w' => ∃ v l, e = .returned v ∧ SlCt (fun b => W.heap.size ≤ b ∧ b < w'.heap.size) w' v l ∧ Cou.Srt l ∧ (∀ t, t ∈ l ↔ Cou.Hop a [c] t) ∧ Below W.heap.size W w' := fun c hs W hb => by
    have hb2 := Ba hb (.cells #[.int .i64 c.1, .int .i64 c.2] 28)
    have hA2 := hA.onB hF hb2
    have hP : SlCt (fun b => b < (W.alloc (.cells #[.int .i64 c.1, .int .i64 c.2] 28)).heap.size) (W.alloc (.cells #[.int .i64 c.1, .int .i64 c.2] 28)) (.slice (some ⟨W.heap.size, 0, none⟩) 1 1) [c] := by
      refine ⟨some ⟨W.heap.size, 0, none⟩, 1, rfl, by simp, by simp, fun i hi => ?_⟩
      have hi0 : i = 0 := by simpa using hi
      subst hi0
      exact ⟨⟨W.heap.size, 0, none⟩, [.int .i64 c.1, .int .i64 c.2], rfl, by simp, rfl, rfl, by simpa [Addr.add] using Flds.new W [.int .i64 c.1, .int .i64 c.2] 28⟩
    refine (reach_any a hok (.slice Ad a.divs.length cd) vc _ [c] (fun p hp => by simp only [List.mem_singleton] at hp; subst hp; exact hs) _ (fun b => b < (W.alloc (.cells #[.int .i64 c.1, .int .i64 c.2] 28)).heap.size) ⟨fun b h => h, hA2.dv.mono hA2.inW, hA2.cp.mono hA2.inW⟩ hP (hT.below hb2) (fun b h => h) (Nat.lt_of_lt_of_le hg0 hb2.size)).mono ?_
    rintro e w' ⟨v, l, rfl, q1, q2, q3, q4⟩
    refine ⟨v, l, rfl, ?_, q2, q3, Bt (Ba (B0 W) _) q4⟩
    obtain ⟨A, c', r1, r2, r3, r4⟩ := q1
    refine ⟨A, c', r1, r2, r3, fun i hi => ?_⟩
    obtain ⟨ad, cs, t1, t2, t3, t4, t5⟩ := r4 i hi
    refine ⟨ad, cs, t1, ⟨by simp at t2; omega, ?_⟩, t3, t4, t5⟩
    unfold CtC at t4
    subst t4
    have := cell_lt (t5 0 _ rfl)
    rwa [block_of_add, block_of_add] at this
  have HRE := Lib.hid hHRE
  have hnd := hok.nd
  have hmk := hmkBool a.divs.length (by omega)
  have HA1 := Lib.hid A1
  have HB1 := Lib.hid B1
  have x0 := A1.cell 0
  have x1 := A1.cell 1
  have x2 := A1.cell 2
  simp only [List.getElem?_toArray, List.getElem?_cons_zero, List.getElem?_cons_succ] at x0 x1 x2
  clear hHRE hA hT A1 B1
  go_enter Tryd.func19, Tryd.ntmps19
  rw [hab]
  go_wp2_with (go_at_call 35; (with_reducible refine (HRT.out.mono ?_)); rintro e w2 ⟨rfl, hb2⟩; have HB2 := Lib.hid (Bt HB1.out hb2); have A2 := HA1.out.below hb2 (by omega); have HA2 := Lib.hid A2; have x0' := A2.cell 0; have s2 := hb2.size; simp only [List.getElem?_toArray, List.getElem?_cons_zero] at x0'; clear A2 hb2)
  clear x0' HRT HA1 HB1
  go_loopg [5, 18] a.divs.length (fun gg s5 s18 wr => ∃ (k : Nat) (gs : List Nat), k ≤ a.divs.length ∧ a.divs.length - k ≤ gg ∧ s18 = .int .i64 k ∧ Aside (MatAt (ab + 1) a.divs.length s5 gs (List.replicate k (List.replicate a.divs.length false)) wr) ∧ Aside (Blk wr ab 34 #[.slice Ad a.divs.length cd, vc, .int .u64 a.drawn]) ∧ Aside (Below w.heap.size w wr))
  case atStart => exact ⟨0, [], by omega, by omega, rfl, MatAt.start (by omega), HA2.out, HB2.out⟩
  case round =>
    clear HA2 HB2
    obtain ⟨k, gs, hk, hg, rfl, hM, hA, hB⟩ := hrel
    have x0 := hA.cell 0
    simp only [List.getElem?_toArray, List.getElem?_cons_zero] at x0
    by_cases hlt : k < a.divs.length
    · have hki : decide ((k : Int) < a.divs.length) = true := decide_eq_true (by omega)
      obtain ⟨cs, q1, q2, q3⟩ := id hM.own
      have hgl : gs.length = k := by rw [hM.len, List.length_replicate]
      have HM := Lib.hid hM
      have HA := Lib.hid hA
      have HB := Lib.hid hB
      have HQ1 := Lib.hid q1
      have HQ2 := Lib.hid q2
      have HQ3 := Lib.hid q3
      have hsz := hM.big
      clear hM hA hB q1 q2 q3
      go_wp2_with (at_builtin; refine wpList_appS elemBB (by omega) rfl _ _ rfl (ab + 1) _ gs.length _ rfl ((HQ3.out.alloc _).alloc _) ⟨wr.heap.size + 1, 0, none⟩ 1 [.slice (some ⟨wr.heap.size, 0, none⟩) a.divs.length a.divs.length] rfl rfl (by have := Flds.new (wr.alloc (.cells (List.replicate a.divs.length (.bool false)).toArray 4)) [.slice (some ⟨wr.heap.size, 0, none⟩) a.divs.length a.divs.length] 56; rwa [World.size_alloc] at this) (by simp [Value.oneCell']) (by omega) (by omega) (by simp; omega) ?_; intro g cap w8 hown8 hg8 hgg; have HO8 := Lib.hid hown8; have HG8 := Lib.hid hg8; clear hown8 hg8 hgg)
      go_roundg (a.divs.length - (k + 1))
      case measure => omega
      case rel =>
        refine ⟨k + 1, gs ++ [wr.heap.size], by omega, by omega, by go_num, (show Aside _ from ?_), (((HA.out.alloc _).alloc _).grown HG8.out fun e => ?_), (Ba (Ba HB.out _) _).grown HG8.out (by have := HB.out.size; simp; omega) fun b e => ?_⟩
        · have := HM.out.push HQ1.out HQ2.out _ HO8.out HG8.out
          rw [hgl] at this
          show MatAt _ _ _ _ _ _
          rw [List.replicate_succ']
          exact this
        · exact own_ne HQ3.out HA.out (by decide) e.symm
        · have := (HM.out.own.lt b e).1; omega
    · have hki : decide ((k : Int) < a.divs.length) = false := decide_eq_false (by omega)
      have hkk : k = a.divs.length := by omega
      subst hkk
      replace hB : Below w.heap.size w wr := hB
      obtain ⟨Am, cm, hvm, _, _, _⟩ := hM.own.sl (F := fun _ => True) (by rw [hM.len, List.length_replicate]; omega) (fun _ _ _ _ => trivial)
      have hgl : gs.length = a.divs.length := by rw [hM.len, List.length_replicate]
      rw [hgl] at hvm
      subst hvm
      have HGL := Lib.hid hgl
      clear hgl
      have HM := Lib.hid hM
      have HA := Lib.hid hA
      have HB := Lib.hid hB
      have x1 := hA.cell 1
      have x2 := hA.cell 2
      simp only [List.getElem?_toArray, List.getElem?_cons_zero, List.getElem?_cons_succ] at x1 x2
      clear hM hA hB
      go_wp2_with (go_at_call 41; (with_reducible refine ((HCN.out _ HB.out).mono ?_)); rintro e w3 ⟨cv, rfl, hcv, hb3⟩; have HCV := Lib.hid hcv; have HM3 := Lib.hid (HM.out.keep hb3); have HA3 := Lib.hid (HA.out.below hb3 HA.out.lt); have HB3 := Lib.hid (Bt HB.out hb3); obtain ⟨Ax, cx, rfl, hcl, hcl2, hcat⟩ := id hcv; clear hcv hb3)
      have hgw : ∀ g ∈ gs, g < wr.heap.size := fun g hg => by
        obtain ⟨i, hi, rfl⟩ := List.getElem_of_mem hg
        exact (HM.out.blk i hi).lt
      have hgb : ∀ g ∈ gs, ab + 1 ≤ g := HM.out.ge
      have hwb : ab + 1 ≤ wr.heap.size := HM.out.big
      have HIN : Hid (∀ t, t ∈ Cou.ctsF 0 a.divs ↔ Cou.InA a t) := Lib.hid fun t => Cou.ctsF_inA
      have hctl : (Cou.ctsF 0 a.divs).length ≤ 1024 := by
        have := Cou.ctsF_len (d := 0) hok.div
        omega
      have HGW := Lib.hid hgw
      have HGB := Lib.hid hgb
      have HCAT := Lib.hid hcat
      clear HM HA HB HCV hgw hgb hcat x0 x1 x2 hmk HCN
      generalize Cou.ctsF 0 a.divs = cts at *
      obtain ⟨s0, hs0⟩ : ∃ s0, wr.heap.size = s0 := ⟨_, rfl⟩
      rw [hs0] at hwb HGW HCAT
      clear hs0
      have hab3 : ab < w3.heap.size := HA3.out.lt
      go_loopg [31] cts.length (fun gg s31 w4 => ∃ (k : Nat) (M : List (List Bool)), k ≤ cts.length ∧ cts.length - k ≤ gg ∧ s31 = .int .i64 k ∧ Aside (MatAt (ab + 1) a.divs.length (.slice Am a.divs.length cm) gs M w4) ∧ Aside (∀ i j : Nat, Cou.getM M i j = true ↔ ∃ c ∈ cts.take k, c.1 = i ∧ ∃ t, Cou.Hop a [c] t ∧ t.1 = j) ∧ Aside (Off gs w3 w4))
      case atStart => exact ⟨0, _, by omega, by omega, rfl, HM3.out, fun i j => by rw [Cou.getM_repl]; simp, Off.refl _ _⟩
      case round =>
        obtain ⟨k, M, hk, hg, rfl, hM, hMM, hO⟩ := hrel
        replace hO : Off gs w3 wr := hO
        replace hM : MatAt (ab + 1) a.divs.length (.slice Am a.divs.length cm) gs M wr := hM
        have hAb : Blk wr ab 34 #[.slice Ad a.divs.length cd, vc, .int .u64 a.drawn] := hO.blk HA3.out fun q => by have := HGB.out _ q; omega
        have hBw : Below w.heap.size w wr := hO.below HB3.out (by omega) fun g q => by have := HGB.out g q; omega
        by_cases hlt : k < cts.length
        · have hki : decide ((k : Int) < cts.length) = true := decide_eq_true (by omega)
          have hkl : (k : Int) < cts.length := by omega
          obtain ⟨ad, cs, rfl, hfb, hcl3, hcs, hfl⟩ := HCAT.out k hlt
          unfold CtC at hcs
          subst hcs
          have hc0 := hfl 0 _ rfl
          have hc1 := hfl 1 _ rfl
          have hbl : (ad.add (k * 2)).block < w3.heap.size := by have := cell_lt hc0; rwa [block_of_add] at this
          have hbn : (ad.add (k * 2)).block ∉ gs := fun q => by have := HGW.out _ q; rw [block_of_add] at this; omega
          have hfl4 : Flds wr (ad.add (k * 2)) [.int .i64 cts[k].1, .int .i64 cts[k].2] := fun j u hu => (World.cell?_of_block (by rw [block_of_add]; exact hO.block _ hbl hbn)).trans (hfl j u hu)
          have f0 := hfl4.f0 rfl
          have f1 := hfl4.f1 rfl
          have hci : Cou.InA a cts[k] := (HIN.out _).1 (List.getElem_mem hlt)
          have htk : ∀ c, c ∈ cts.take (k + 1) ↔ c ∈ cts.take k ∨ c = cts[k] := fun c => by
            rw [List.take_add_one, List.getElem?_eq_getElem hlt, List.mem_append]
            simp
          have hMC := hMM
          generalize cts[k] = c at *
          obtain ⟨c1, c2⟩ := c
          obtain ⟨ci, rfl⟩ : ∃ ci : Nat, c1 = ci := ⟨c1.toNat, by have := hci.1; simp only at this; omega⟩
          have hcil : ci < a.divs.length := by have := hci.2.1; simp only at this; omega
          have hcs := inA_small hok hci
          obtain ⟨bx, hbx⟩ : ∃ bx, wr.heap.size = bx := ⟨_, rfl⟩
          obtain ⟨w5, hw5⟩ : ∃ w5 : World, wr.alloc (.cells #[.int .i64 ci, .int .i64 c2] 28) = w5 := ⟨_, rfl⟩
          have hCb : Blk w5 bx 28 #[.int .i64 ci, .int .i64 c2] := by rw [← hw5, ← hbx]; exact Blk.new _ _ _
          have hB45 : Below wr.heap.size wr w5 := by rw [← hw5]; exact Ba (B0 wr) _
          have hA5 := hAb.below hB45 hAb.lt
          have a0 := hA5.cell 0
          have a1 := hA5.cell 1
          have a2 := hA5.cell 2
          have b0 := hCb.cell 0
          have b1 := hCb.cell 1
          simp only [List.getElem?_toArray, List.getElem?_cons_zero, List.getElem?_cons_succ] at a0 a1 a2 b0 b1
          have hR := HRE.out ((ci : Int), c2) hcs w5 (Bt hBw hB45)
          have HR := Lib.hid hR
          have hO5 := hO.trans (Off.of_below hB45)
          have HO5 := Lib.hid hO5
          have HM5 := Lib.hid (hM.keep hB45)
          have HMM := Lib.hid hMC
          have HTK := Lib.hid htk
          have HCB := Lib.hid hCb
          have HCI := Lib.hid hci
          have hgn : bx ∉ gs := fun q => by
            obtain ⟨i, hi, e⟩ := List.getElem_of_mem q
            have := (hM.blk i hi).lt
            omega
          clear hR hMM hMC htk hO hM hAb hBw hfl hfl4 hc0 hc1 hO5 hci hcs hB45 hA5
          have hgw5 : ∀ g ∈ gs, g < w5.heap.size := fun g q => by
            obtain ⟨i, hi, e⟩ := List.getElem_of_mem q
            have := (HM5.out.blk i hi).lt
            omega
          have HGW5 := Lib.hid hgw5
          clear hgw5
          go_wp2_with (go_at_call 38; (with_reducible refine (HR.out.mono ?_)); rintro e w6 ⟨lv, l, rfl, q1, q2, q3, q4⟩; obtain ⟨Al, cl, rfl, hlc1, hlc2, hlat⟩ := id q1; have HLAT := Lib.hid hlat; have HQ2 := Lib.hid q2; have HQ3 := Lib.hid q3; have HB6 := Lib.hid q4; have HM6 := Lib.hid (HM5.out.keep q4); have HCB6 := Lib.hid (HCB.out.below q4 HCB.out.lt); have HO6 := Lib.hid (HO5.out.trans (Off.of_below q4)); clear hlat q1 q2 q3 q4)
          have hll : l.length ≤ 1024 := Cou.cts_short hok HQ2.out.nodup fun t ht => Cou.Hop.in_ hok ((HQ3.out t).1 ht)
          clear a0 a1 a2 b0 b1 f0 f1 hw5 hbx HR HM5 HCB HO5
          go_loopg [40] l.length (fun gg s40 w7 => ∃ (m : Nat) (M' : List (List Bool)), m ≤ l.length ∧ l.length - m ≤ gg ∧ s40 = .int .i64 m ∧ Aside (MatAt (ab + 1) a.divs.length (.slice Am a.divs.length cm) gs M' w7) ∧ Aside (∀ i j : Nat, Cou.getM M' i j = true ↔ Cou.getM M i j = true ∨ (i = ci ∧ ∃ t ∈ l.take m, t.1 = j)) ∧ Aside (Off gs w6 w7))
          case atStart => exact ⟨0, M, by omega, by omega, rfl, HM6.out, fun i j => by simp, Off.refl _ _⟩
          case round =>
            obtain ⟨m, M', hm, hg3, rfl, hM7, hMM7, hO7⟩ := hrel
            replace hO7 : Off gs w6 wr := hO7
            replace hM7 : MatAt (ab + 1) a.divs.length (.slice Am a.divs.length cm) gs M' wr := hM7
            by_cases hml : m < l.length
            · have hki2 : decide ((m : Int) < l.length) = true := decide_eq_true (by omega)
              have hkl2 : (m : Int) < l.length := by omega
              obtain ⟨ad2, cs2, rfl, hfb3, _, hcs2, hfl6⟩ := HLAT.out m hml
              unfold CtC at hcs2
              subst hcs2
              have hbn2 : (ad2.add (m * 2)).block ∉ gs := fun q => by have := HGW5.out _ q; rw [block_of_add] at this; have := hfb3.1; omega
              have hfl7 : Flds wr (ad2.add (m * 2)) [.int .i64 l[m].1, .int .i64 l[m].2] := fun j u hu => (World.cell?_of_block (by rw [block_of_add]; exact hO7.block _ (by rw [block_of_add]; exact hfb3.2) hbn2)).trans (hfl6 j u hu)
              have f0 := hfl7.f0 rfl
              have f1 := hfl7.f1 rfl
              have hti : Cou.InA a l[m] := Cou.Hop.in_ hok ((HQ3.out _).1 (List.getElem_mem hml))
              have htk : ∀ t, t ∈ l.take (m + 1) ↔ t ∈ l.take m ∨ t = l[m] := fun t => by
                rw [List.take_add_one, List.getElem?_eq_getElem hml, List.mem_append]
                simp
              generalize l[m] = t at *
              obtain ⟨t1, t2⟩ := t
              obtain ⟨tj, rfl⟩ : ∃ tj : Nat, t1 = tj := ⟨t1.toNat, by have := hti.1; simp only at this; omega⟩
              have htj : tj < a.divs.length := by have := hti.2.1; simp only at this; omega
              obtain ⟨w8, hw8⟩ : ∃ w8 : World, wr.alloc (.cells #[.int .i64 tj, .int .i64 t2] 28) = w8 := ⟨_, rfl⟩
              have hB78 : Below wr.heap.size wr w8 := by rw [← hw8]; exact Ba (B0 wr) _
              have hM8 := hM7.keep hB78
              have hgi : ci < gs.length := by rw [HGL.out]; omega
              have hT8 : Blk w8 wr.heap.size 28 #[.int .i64 tj, .int .i64 t2] := by rw [← hw8]; exact Blk.new _ _ _
              have hC7 := hO7.blk HCB6.out hgn
              have hC8 := hC7.below hB78 hC7.lt
              have t0 := hT8.cell 0
              have t1 := hT8.cell 1
              have b0 := hC8.cell 0
              have b1 := hC8.cell 1
              simp only [List.getElem?_toArray, List.getElem?_cons_zero, List.getElem?_cons_succ] at t0 t1 b0 b1
              obtain ⟨Aq, cq, hvq, _, _, hrow⟩ := hM8.own.sl (F := fun _ => True) (by rw [HGL.out]; omega) (fun _ _ _ _ => trivial)
              obtain ⟨adr, csr, hAq, _, _, hcsr, hflr⟩ := hrow ci hgi
              injection hvq with hv1 hv2 hv3
              clear hv2 hv3
              subst hAq
              subst hv1
              unfold RowC at hcsr
              subst hcsr
              have r0 := hflr.f0 rfl
              rw [Nat.mul_one] at r0
              have hbk := hM8.blk ci hgi
              obtain ⟨old, z0⟩ : ∃ old, w8.cell? ⟨gs[ci], tj, none⟩ = some old := by
                have hrl : (M'.getD ci []).length = a.divs.length := by
                  have hcm : ci < M'.length := by have := hM7.len; have := HGL.out; omega
                  rw [List.getD_eq_getElem?_getD, List.getElem?_eq_getElem hcm]
                  exact hM7.row _ (List.getElem_mem hcm)
                have hz := hbk.cell tj
                rw [List.getElem?_toArray, List.getElem?_map, List.getElem?_eq_getElem (by omega)] at hz
                exact ⟨_, hz⟩
              have zf := hbk.frozen tj
              have HM9 := Lib.hid (hM8.set ci tj hgi htj)
              have HO9 := Lib.hid ((hO7.trans (Off.of_below hB78)).trans (Off.set (p := ⟨gs[ci], tj, none⟩) (List.getElem_mem hgi) (.bool true)))
              have hci0 : (0 : Int) ≤ (ci : Int) := by omega
              have hci1 : (ci : Int) < a.divs.length := by omega
              have htj1 : (tj : Int) < a.divs.length := by omega
              have hMset : ∀ i j : Nat, Cou.getM (Cou.setM M' ci tj) i j = true ↔ Cou.getM M i j = true ∨ (i = ci ∧ ∃ t ∈ l.take (m + 1), t.1 = j) := fun i j => by
                rw [Cou.getM_set hM7.row (by have := hM7.len; have := HGL.out; omega) htj, Bool.or_eq_true, hMM7, decide_eq_true_eq]
                constructor
                · rintro (⟨rfl, rfl⟩ | h | ⟨rfl, t, ht, e⟩)
                  · exact .inr ⟨rfl, _, (htk _).2 (.inr rfl), rfl⟩
                  · exact .inl h
                  · exact .inr ⟨rfl, t, (htk _).2 (.inl ht), e⟩
                · rintro (h | ⟨rfl, t, ht, e⟩)
                  · exact .inr (.inl h)
                  · rcases (htk _).1 ht with q | q
                    · exact .inr (.inr ⟨rfl, t, q, e⟩)
                    · subst q
                      simp only at e
                      exact .inl ⟨rfl, by omega⟩
              have HMS := Lib.hid hMset
              generalize gs[ci] = gi at *
              clear hM7 hMM7 hO7 hfl6 hfl7 hti htk hB78 hM8 hT8 hC7 hC8 hrow hflr hbk hMset
              go_upto_region 15 with fail
              go_region
              all_goals
                go_wp2_with fail
                go_roundg (l.length - (m + 1))
                case measure => omega
                case rel => exact ⟨m + 1, _, by omega, by omega, by go_num, HM9.out.keep (B0 _).drew, HMS.out, HO9.out.trans (Off.of_below (B0 _).drew)⟩
            · have hki2 : decide ((m : Int) < l.length) = false := decide_eq_false (by omega)
              have hmm : m = l.length := by omega
              subst hmm
              have hfin : ∀ i j : Nat, Cou.getM M' i j = true ↔ ∃ c ∈ cts.take (k + 1), c.1 = i ∧ ∃ t, Cou.Hop a [c] t ∧ t.1 = j := fun i j => by
                rw [hMM7, HMM.out, List.take_length]
                constructor
                · rintro (⟨c, hc, h1, h2⟩ | ⟨rfl, t, ht, e⟩)
                  · exact ⟨c, (HTK.out c).2 (.inl hc), h1, h2⟩
                  · exact ⟨_, (HTK.out _).2 (.inr rfl), rfl, t, (HQ3.out t).1 ht, e⟩
                · rintro ⟨c, hc, h1, t, h2, h3⟩
                  rcases (HTK.out c).1 hc with q | q
                  · exact .inl ⟨c, q, h1, t, h2, h3⟩
                  · subst q
                    simp only at h1
                    exact .inr ⟨by omega, t, (HQ3.out t).2 h2, h3⟩
              have HFI := Lib.hid hfin
              have HM9 := Lib.hid hM7
              have HO9 := Lib.hid (HO6.out.trans hO7)
              clear hM7 hMM7 hO7 hfin
              go_wp2_with fail
              go_roundg (cts.length - (k + 1))
              case measure => omega
              case rel => exact ⟨k + 1, M', by omega, by omega, by go_num, HM9.out, HFI.out, HO9.out⟩
        · have hki : decide ((k : Int) < cts.length) = false := decide_eq_false (by omega)
          have hkk : k = cts.length := by omega
          subst hkk
          have hMO : MatOk a M := by
            refine ⟨by rw [← hM.len]; exact HGL.out, hM.row, fun i j => ?_⟩
            rw [hMM, List.take_length]
            constructor
            · rintro ⟨c, hc, h1, h2⟩
              exact ⟨c, (HIN.out c).1 hc, h1, h2⟩
            · rintro ⟨c, hc, h1, h2⟩
              exact ⟨c, (HIN.out c).2 hc, h1, h2⟩
          have HMO := Lib.hid hMO
          have HSL := Lib.hid (hM.slBB (F := fun b => ab ≤ b) (by omega) (by have := hM.len; have := HGL.out; omega) (fun b h => by show ab ≤ b; omega))
          have HBW := Lib.hid hBw
          clear hMO hM hMM hO hAb hBw
          go_wp2_with fail
          refine bodyPost_ret (v := .tuple #[.slice Am a.divs.length cm, .int .i64 0]) ?_ rfl ?_
          · simp [results, Tryd.f19, go_sem]
          · exact ⟨_, M, rfl, HSL.out, HMO.out, by rw [← hab]; exact HBW.out⟩
end Go.Proofs.YtnkjhppjjklgfaaDoor
