/- Plain and walks over coupler: the played contacts of keys. Walks over coupler: played. -/
import Derived.Test.YtnkjhppjjklgfaaDoorKi
import Derived.Test.YtnkjhppjjklgfaaDoorNe
namespace Go.Proofs.YtnkjhppjjklgfaaDoor
open Go Go.RowKit Go.Shelf
namespace Cou
/-- The contacts of a set of notes of division d. -/
def oneL (d : Nat) (x : Nat) : List Ct := (Nt.mem x).map fun k : Nat => ((d : Int), (k : Int))
def allL : Nat → List Nat → List Ct
  | _, [] => []
  | d, x :: r => oneL d x ++ allL (d + 1) r
def okOne (c : Int × Int) (x : Nat) : Bool := (Nt.mem x).all fun k : Nat => inB c (k : Int)
def okAll (a : Ac) (ks : List Nat) : Bool := (List.range ks.length).all fun i => okOne (a.divs.getD i (0, -1)) (ks.getD i 0)
/-- What played answers. -/
def playedR (a : Ac) (ks : List Nat) : List Ct × Int := if ks.length = a.divs.length then (if okAll a ks = true then (allL 0 ks, 0) else ([], 23)) else ([], 5)
theorem allL_snoc {x : Nat} : ∀ {l : List Nat} {d : Nat}, allL d (l ++ [x]) = allL d l ++ oneL (d + l.length) x
  | [], d => by simp [allL]
  | y :: r, d => by
    rw [List.cons_append, allL, allL_snoc, allL, List.append_assoc, List.length_cons, show d + 1 + r.length = d + (r.length + 1) by omega]
theorem oneL_len (d x : Nat) : (oneL d x).length ≤ 128 := by unfold oneL; rw [List.length_map]; exact Nt.mem_len x
theorem allL_len : ∀ (l : List Nat) (d : Nat), (allL d l).length ≤ 128 * l.length
  | [], _ => by simp [allL]
  | x :: r, d => by
    rw [allL, List.length_append, List.length_cons]
    have := oneL_len d x
    have := allL_len r (d + 1)
    omega
end Cou
/-- The cells of a set of notes. -/
def NtC (_ : World) (cs : List Value) (x : Nat) : Prop := cs = [.int .u64 ((Nt.lo x : Nat) : Int), .int .u64 ((Nt.hi x : Nat) : Int)]
abbrev SlK (F : Nat → Prop) (w : World) (v : Value) (l : List Nat) : Prop := Sl F 2 NtC w v l
theorem SlK.open {F : Nat → Prop} {w : World} {v : Value} {l : List Nat} (h : SlK F w v l) : ∃ A c, v = .slice A l.length c ∧ l.length ≤ c ∧ l.length ≤ 140737488355328 ∧
    ∀ i (hi : i < l.length), ∃ ad, A = some ad ∧ F ad.block ∧ Flds w (ad.add (i * 2)) [.int .u64 ((Nt.lo l[i] : Nat) : Int), .int .u64 ((Nt.hi l[i] : Nat) : Int)] := by
  obtain ⟨A, c, hv, hc, hl, hi⟩ := h
  refine ⟨A, c, hv, hc, hl, fun i hil => ?_⟩
  obtain ⟨ad, cs, hA, hF, hk, hr, hcell⟩ := hi i hil
  unfold NtC at hr
  subst hr
  exact ⟨ad, hA, hF, hcell⟩
theorem SlK.keep {F : Nat → Prop} {w w' : World} {v : Value} {l : List Nat} (h : SlK F w v l) (ha : Agree F w w') : SlK F w' v l := Sl.keep h ha fun _ _ hr => hr
end Go.Proofs.YtnkjhppjjklgfaaDoor
namespace Go.Proofs.YtnkjhppjjklgfaaDoor
open Go Go.RowKit Go.Shelf
namespace Cou
theorem okAll_false {a : Ac} {ks : List Nat} {k : Nat} (hk : k < ks.length) {i : Nat} (hi : i < (Nt.mem (ks.getD k 0)).length) (h : inB (a.divs.getD k (0, -1)) (((Nt.mem (ks.getD k 0))[i] : Nat) : Int) = false) : okAll a ks = false := by
  unfold okAll
  rw [List.all_eq_false]
  refine ⟨k, List.mem_range.2 hk, ?_⟩
  unfold okOne
  rw [Bool.not_eq_true, List.all_eq_false]
  exact ⟨_, List.getElem_mem hi, by rw [h]; simp⟩
end Cou
set_option maxRecDepth 100000 in
set_option maxHeartbeats 4000000 in
theorem played_any (a : Cou.Ac) (hok : Cou.Ok a) (vd vc pv : Value) (ks : List Nat) (hks : ∀ x ∈ ks, x < 2 ^ 128) (dr : Int) (w : World) (F G : Nat → Prop) (hA : AcAt F w vd vc a) (hG : ∀ b, G b → b < w.heap.size) (hP : SlK G w pv ks) (hT : Tab64 w) (hg : 0 < w.heap.size) :
    Calls Tryd.prog 50 #[.agg #[vd, vc, .int .u64 dr], pv] w fun e w' => ∃ v, e = .returned (.tuple #[v, .int .i64 (Cou.playedR a ks).2]) ∧ SlCt (fun b => w.heap.size ≤ b ∧ b < w'.heap.size) w' v (Cou.playedR a ks).1 ∧ Below w.heap.size w w' := by
  obtain ⟨Ad, cd, rfl, _, had⟩ := id hA.dv.open
  obtain ⟨Ac, cc, rfl, _, _⟩ := id hA.cp.open
  obtain ⟨Ap, cp, rfl, _, hpl, hap⟩ := id hP.open
  have hFF := hA.inW
  obtain ⟨B, hBB⟩ : ∃ B, w.heap.size = B := ⟨_, rfl⟩
  obtain ⟨w1, hw1⟩ : ∃ w1 : World, w.alloc (.cells #[.slice Ad a.divs.length cd, .slice Ac a.cps.length cc, .int .u64 dr] 34) = w1 := ⟨_, rfl⟩
  have x0 : w1.cell? ⟨B, 0, none⟩ = some (.slice Ad a.divs.length cd) := by rw [← hw1, ← hBB]; simp [go_sem]
  have B1 : Below w.heap.size w w1 := by rw [← hw1]; exact Ba (B0 w) _
  have s1 : w1.heap.size = B + 1 := by rw [← hw1, ← hBB]; simp
  have HW1 := Lib.hid hw1
  have HBB := Lib.hid hBB
  have HB1 := Lib.hid B1
  by_cases hlen : ks.length = a.divs.length
  · obtain ⟨n, hn⟩ : ∃ n, ks.length = n := ⟨_, rfl⟩
    have hnd : a.divs.length = n := by omega
    have hn8 : n ≤ 8 := by rw [← hnd]; exact hok.nd
    have hME := fun (x : Nat) (hx : x ∈ ks) W (hb : Below w1.heap.size w1 W) => members_any x (hks x hx) W (hT.below (Bt B1 hb)) (Nat.lt_of_lt_of_le hg (Bt B1 hb).size)
    have HN := Lib.hid hn
    have HND := Lib.hid hnd
    have HME := Lib.hid hME
    have HAD := Lib.hid had
    have HAP := Lib.hid hap
    have HX := Lib.hid (fun W (hb : Below w1.heap.size w1 W) => (Bc hb (show B < w1.heap.size by omega)).trans x0)
    rw [hnd] at HX HW1
    rw [hn, hnd]
    clear hw1 B1 had hap hA hP hT hlen hME hn hnd x0 hBB hks
    go_enter Tryd.func50, Tryd.ntmps50
    go_upto_region 1 with fail
    rw [HW1.out, HBB.out]
    have x0 := HX.out w1 (B0 w1)
    go_wp2_with fail
    clear x0
    go_loopw [6, 19] (fun s6 s19 wr => ∃ k : Nat, k ≤ n ∧ s19 = .int .i64 k ∧ Aside (∀ i, i < k → Cou.okOne (a.divs.getD i (0, -1)) (ks.getD i 0) = true) ∧ Aside (OwnL (B + 1) 28 2 CtC wr s6 (Cou.allL 0 (ks.take k))) ∧ Aside (Below w1.heap.size w1 wr)) (fun _ s19 _ => n - (intOf s19).toNat)
    case atStart => exact ⟨0, by omega, rfl, (fun i hi => absurd hi (by omega)), (show OwnL _ _ _ _ _ _ _ from OwnL.nil), B0 w1⟩
    case round =>
      obtain ⟨k, hk, rfl, hT, hO, hB⟩ := hrel
      replace hT : ∀ i, i < k → Cou.okOne (a.divs.getD i (0, -1)) (ks.getD i 0) = true := hT
      replace hB : Below w1.heap.size w1 wr := hB
      replace hO : OwnL (B + 1) 28 2 CtC wr u6 (Cou.allL 0 (ks.take k)) := hO
      by_cases hlt : k < n
      · have hltI : (k : Int) < n := by omega
        have hk1 : k < ks.length := by rw [HN.out]; exact hlt
        have hk2 : k < a.divs.length := by rw [HND.out]; exact hlt
        obtain ⟨ad, rfl, hf, hfl⟩ := HAD.out k hk2
        obtain ⟨ap, rfl, hfp, hflp⟩ := HAP.out k hk1
        have hfb : (ad.add (k * 2)).block < w.heap.size := by rw [block_of_add]; exact hFF _ hf
        have hpb : (ap.add (k * 2)).block < w.heap.size := by rw [block_of_add]; exact hG _ hfp
        have q := (hflp.below HB1.out hpb).below hB (Nat.lt_of_lt_of_le hpb HB1.out.size)
        have p0 := q.f0 rfl
        have p1 := q.f1 rfl
        have hsn : ks.take (k + 1) = ks.take k ++ [ks[k]] := by rw [List.take_add_one, List.getElem?_eq_getElem hk1]; rfl
        have hgd : ks.getD k 0 = ks[k] := by rw [List.getD_eq_getElem?_getD, List.getElem?_eq_getElem hk1]; rfl
        have hgc : a.divs.getD k (0, -1) = a.divs[k] := by rw [List.getD_eq_getElem?_getD, List.getElem?_eq_getElem hk2]; rfl
        have hme := HME.out ks[k] (List.getElem_mem hk1)
        have hOK : ∀ (i : Nat) (hi : i < (Nt.mem ks[k]).length), Cou.inB a.divs[k] (((Nt.mem ks[k])[i] : Nat) : Int) = false → Cou.okAll a ks = false := fun i hi h => by
          refine Cou.okAll_false (i := i) hk1 (by rw [hgd]; exact hi) ?_
          rw [hgc]
          simpa only [hgd] using h
        have hone : (∀ m ∈ Nt.mem ks[k], Cou.inB a.divs[k] (m : Int) = true) → ∀ i, i < k + 1 → Cou.okOne (a.divs.getD i (0, -1)) (ks.getD i 0) = true := fun h i hi => by
          by_cases e : i = k
          · subst e
            rw [hgd, hgc]
            exact List.all_eq_true.2 h
          · exact hT i (by omega)
        have htl : (ks.take k).length = k := by rw [List.length_take]; omega
        have HSN := Lib.hid hsn
        have HOK := Lib.hid hOK
        have HONE := Lib.hid hone
        have HTL := Lib.hid htl
        have HMEK := Lib.hid hme
        have HFL := Lib.hid hfl
        have HO := Lib.hid hO
        have HB := Lib.hid hB
        have hgl := Cou.allL_len (ks.take k) 0
        rw [htl] at hgl
        clear hsn hgd hgc hme hOK hone hT hO hB hfl hflp q htl
        generalize ks[k] = x at *
        generalize a.divs[k] = dv at *
        obtain ⟨lo, hi⟩ := dv
        dsimp only at HFL
        unfold ntV at HMEK
        go_upto_region 7 with fail
        obtain ⟨w2, hw2⟩ : ∃ w2 : World, wr.alloc (.cells #[.int .u64 ((Nt.lo x : Nat) : Int), .int .u64 ((Nt.hi x : Nat) : Int)] 70) = w2 := ⟨_, rfl⟩
        have hB2 : Below wr.heap.size wr w2 := by rw [← hw2]; exact Ba (B0 wr) _
        have g0 : w2.cell? ⟨wr.heap.size, 0, none⟩ = some (.int .u64 ((Nt.lo x : Nat) : Int)) := by rw [← hw2]; simp [go_sem]
        have g1 : w2.cell? ⟨wr.heap.size, 1, none⟩ = some (.int .u64 ((Nt.hi x : Nat) : Int)) := by rw [← hw2]; simp [go_sem]
        rw [hw2]
        have HB2 := Lib.hid hB2
        clear hw2 hB2 p0 p1
        obtain ⟨L, hL⟩ : ∃ L, ((Nt.mem x).map fun i : Nat => (i : Int)) = L := ⟨_, rfl⟩
        have hme := HMEK.out w2 (Bt HB.out HB2.out)
        rw [hL] at hme
        have hLm : L.length = (Nt.mem x).length := by rw [← hL, List.length_map]
        have hm128 : L.length ≤ 128 := by rw [hLm]; exact Nt.mem_len x
        have hLone : Cou.oneL k x = L.map fun i : Int => ((k : Int), i) := by rw [← hL, List.map_map]; rfl
        have hLin : ∀ (j : Nat) (hj : j < L.length), Cou.inB (lo, hi) L[j] = false → Cou.okAll a ks = false := fun j hj h => by
          refine HOK.out j (by rw [← hLm]; exact hj) ?_
          subst hL
          simpa using h
        have hLall : (∀ i ∈ L, Cou.inB (lo, hi) i = true) → ∀ i, i < k + 1 → Cou.okOne (a.divs.getD i (0, -1)) (ks.getD i 0) = true := fun h => HONE.out fun m hm => h _ (by rw [← hL]; exact List.mem_map_of_mem hm)
        have hown := HO.out.lt
        obtain ⟨wm, hwm⟩ : ∃ wm, w2.heap.size = wm := ⟨_, rfl⟩
        have hwm2 : wr.heap.size ≤ wm := by rw [← hwm]; exact HB2.out.size
        obtain ⟨m, hm⟩ : ∃ m, L.length = m := ⟨_, rfl⟩
        rw [hm] at hm128
        have HM := Lib.hid hm
        have HL1 := Lib.hid hLone
        have HLI := Lib.hid hLin
        have HLA := Lib.hid hLall
        have HOW := Lib.hid hown
        have HE := Lib.hid hme
        have HWM := Lib.hid hwm
        have HWM2 := Lib.hid hwm2
        clear hL hLm hLone hLin hLall hown hme hwm hm hwm2 HMEK HOK HONE
        have hBsz : B + 1 ≤ wr.heap.size := by have := HB.out.size; omega
        go_wp2_with (go_at_call 67; (with_reducible refine (HE.out.mono ?_)); rintro e w3 ⟨vm, rfl, hsm, hb3⟩; obtain ⟨Am, cm, rfl, hcm, _, hatm⟩ := id hsm.open; rw [HM.out] at hcm ⊢; have HSM := Lib.hid hsm; have HB3 := Lib.hid hb3; have HATM := Lib.hid hatm; clear hsm hb3 hatm)
        clear g0 g1
        have hB23 := Bt HB2.out HB3.out
        have hw3s := HB3.out.size
        rw [HWM.out] at hw3s
        have H23 := Lib.hid hB23
        obtain ⟨wn, hwn⟩ : ∃ wn, w3.heap.size = wn := ⟨_, rfl⟩
        rw [hwn] at hw3s
        have HWN := Lib.hid hwn
        have hBn : B + 1 ≤ wn := by have := HWM2.out; omega
        clear hB23 hwn
        obtain ⟨wo, rfl⟩ : ∃ wo : World, wo = wr := ⟨_, rfl⟩
        go_loopw [6, 27] (fun s6 s27 wr => ∃ j : Nat, j ≤ m ∧ s27 = .int .i64 j ∧ Aside (∀ i ∈ L.take j, Cou.inB (lo, hi) i = true) ∧ Aside (OwnL (B + 1) 28 2 CtC wr s6 (Cou.allL 0 (ks.take k) ++ (L.take j).map fun i : Int => ((k : Int), i))) ∧ Aside (∀ b, s6.ownBlock = some b → b < wm ∨ wn ≤ b) ∧ Aside (SlI (fun b => wm ≤ b ∧ b < wn) wr (.slice Am m cm) L) ∧ Aside (Below w1.heap.size w1 wr) ∧ Aside (wn ≤ wr.heap.size)) (fun _ s27 _ => m - (intOf s27).toNat)
        case atStart =>
          refine ⟨0, by omega, rfl, (fun i hi => by simp at hi), ?_, ?_, ?_, ?_, ?_⟩
          · show OwnL _ _ _ _ _ _ _
            simp only [List.take_zero, List.map_nil, List.append_nil]
            exact HO.out.keep rfl (fun xs hx => hx.kept (row := none) (only_of_below H23.out none) (by cases hv : u6.ownBlock <;> simp)) (fun _ _ h => h)
          · intro b e
            have := (HOW.out b e).2
            have := HWM2.out
            exact .inl (by omega)
          · have h9 := HSM.out
            rw [HWM.out, HWN.out] at h9
            rw [← HM.out] at *
            exact h9
          · exact Bt HB.out H23.out
          · exact Nat.le_of_eq HWN.out.symm
        case round =>
          clear HSM HO HB3 H23
          obtain ⟨j, hj, rfl, hI, hO, hV, hS, hB, hW⟩ := hrel
          replace hI : ∀ i ∈ L.take j, Cou.inB (lo, hi) i = true := hI
          replace hO : OwnL (B + 1) 28 2 CtC wr u6 (Cou.allL 0 (ks.take k) ++ (L.take j).map fun i : Int => ((k : Int), i)) := hO
          replace hV : ∀ b, u6.ownBlock = some b → b < wm ∨ wn ≤ b := hV
          replace hS : SlI (fun b => wm ≤ b ∧ b < wn) wr (.slice Am m cm) L := hS
          replace hB : Below w1.heap.size w1 wr := hB
          replace hW : wn ≤ wr.heap.size := hW
          by_cases hjm : j < m
          · have hjmI : (j : Int) < m := by omega
            have hjL : j < L.length := by rw [HM.out]; exact hjm
            obtain ⟨A9, c9, e9, _, _, hat9⟩ := id hS.open
            injection e9 with e1 e2 e3
            subst e1
            obtain ⟨am, rfl, hfm, hcm9⟩ := hat9 j hjL
            have htk : L.take (j + 1) = L.take j ++ [L[j]] := by rw [List.take_add_one, List.getElem?_eq_getElem hjL]; rfl
            have hbad := HLI.out j hjL
            have hfl2 := (HFL.out.below HB1.out hfb).below hB (Nat.lt_of_lt_of_le hfb HB1.out.size)
            have f0 := hfl2.f0 rfl
            have f1 := hfl2.f1 rfl
            have x0 := HX.out wr hB
            have HTK := Lib.hid htk
            have HI := Lib.hid hI
            have HO := Lib.hid hO
            have HV := Lib.hid hV
            have HS := Lib.hid hS
            have HBD := Lib.hid hbad
            have HBw := Lib.hid hB
            have hll : (Cou.allL 0 (ks.take k) ++ (L.take j).map fun i : Int => ((k : Int), i)).length ≤ 128 * k + 128 := by
              rw [List.length_append, List.length_map, List.length_take]; omega
            clear htk hI hO hV hS hbad hat9 hfl2 e2 e3 hB
            generalize L[j] = y at *
            clear hjL
            cases hin : Cou.inB (lo, hi) y with
            | false =>
              have HZ : Hid (Cou.playedR a ks = ([], 23)) := Lib.hid (by unfold Cou.playedR; rw [if_pos (by rw [HN.out, HND.out]), if_neg (by rw [HBD.out hin]; simp)])
              have HIN := Lib.hid (fun W => in_any lo hi y W)
              rw [hin] at HIN
              clear hin
              go_wp2_with (go_at_call 59; (with_reducible refine ((HIN.out _).mono ?_)); rintro e w5 ⟨rfl, hb5⟩; have HB5 := Lib.hid hb5; clear hb5)
              go_ret2
              exact ⟨_, by rw [HZ.out]; rfl, by rw [HZ.out]; exact Sl.nil_, Bt HB1.out (Bt HBw.out HB5.out)⟩
            | true =>
              have HIN := Lib.hid (fun W => in_any lo hi y W)
              rw [hin] at HIN
              have HY := Lib.hid hin
              obtain ⟨cs, q1, q2, q3⟩ := id HO.out
              obtain ⟨mm, hmm⟩ : ∃ mm, (Cou.allL 0 (ks.take k) ++ (L.take j).map fun i : Int => ((k : Int), i)).length = mm := ⟨_, rfl⟩
              rw [hmm] at hll
              have HQ1 := Lib.hid q1
              have HQ2 := Lib.hid q2
              have HQ3 := Lib.hid q3
              have HMM := Lib.hid hmm
              clear hin q1 q2 q3 hmm
              go_wp2_with (first
                | (go_at_call 59; (with_reducible refine ((HIN.out _).mono ?_)); rintro e w5 ⟨rfl, hb5⟩; have HB5 := Lib.hid hb5; have hs5 := hb5.size; have hq5 := HQ3.out.kept (row := none) (only_of_below hb5 none) (by cases hv : u6.ownBlock <;> simp); rw [HMM.out] at hq5; have HQ5 := Lib.hid hq5; clear hb5 hq5)
                | (at_builtin; refine wpList_appS elemCt (by omega) rfl _ _ rfl (B + 1) u6 mm _ rfl (HQ5.out.alloc _) ⟨w5.heap.size, 0, none⟩ 1 [.int .i64 (k : Int), .int .i64 y] rfl rfl (Flds.new w5 _ _) (by simp [Value.oneCell']) (by omega) (by omega) (by simp; omega) ?_; intro g cap w8 hown8 hg8 hgg; have HO8 := Lib.hid hown8; have HG8 := Lib.hid hg8; have HGG := Lib.hid hgg; clear hown8 hg8 hgg))
              go_roundw
              case rel =>
                have hgs := HG8.out.size
                simp at hgs
                refine ⟨j + 1, by omega, by go_num, ?_, ?_, ?_, ?_, ?_, ?_⟩
                · show ∀ i ∈ L.take (j + 1), Cou.inB (lo, hi) i = true
                  rw [HTK.out]
                  intro i hi2
                  rcases List.mem_append.1 hi2 with h | h
                  · exact HI.out i h
                  · simp only [List.mem_singleton] at h; subst h; exact HY.out
                · show OwnL _ _ _ _ _ _ _
                  rw [HTK.out, List.map_append, ← List.append_assoc]
                  exact OwnL.snoc (c := [.int .i64 (k : Int), .int .i64 y]) HQ1.out HQ2.out rfl rfl (fun _ _ h => h) (by rw [HMM.out]; exact HO8.out)
                · intro b e
                  have e2 : g = b := by simpa [Value.ownBlock] using e
                  subst e2
                  rcases HGG.out with q | q
                  · exact HV.out g q.symm
                  · exact .inr (by simp at q; omega)
                · show SlI (fun b => wm ≤ b ∧ b < wn) w8 (.slice (some am) m cm) L
                  refine SlI.keep HS.out (((Agree.below HB5.out fun b h => by omega).trans (Agree.alloc _ fun b h => by omega)).trans (Agree.grown HG8.out fun b h => ⟨by simp; omega, fun e => by rcases HV.out b e.symm with h2 | h2 <;> omega⟩))
                · show Below _ _ _
                  exact (Bt HBw.out (Ba HB5.out _)).grown HG8.out (by simp; omega) fun b e => by have := (HO.out.lt b e).1; omega
                · show _ ≤ _
                  omega
              case measure => simp [intOf]; omega
          · obtain rfl : j = m := by omega
            have hI2 : ∀ i ∈ L, Cou.inB (lo, hi) i = true := by rw [List.take_of_length_le (l := L) (by rw [HM.out]; omega)] at hI; exact hI
            have HT2 := Lib.hid (HLA.out hI2)
            rw [List.take_of_length_le (l := L) (by rw [HM.out]; omega), ← HL1.out] at hO
            have HO2 : Hid (OwnL (B + 1) 28 2 CtC wr u6 (Cou.allL 0 (ks.take (k + 1)))) := Lib.hid (by
              rw [HSN.out, Cou.allL_snoc, HTL.out, Nat.zero_add]; exact hO)
            have HBw := Lib.hid hB
            clear hI hI2 hO hV hS hB
            go_wp2_with fail
            go_roundw
            case rel => exact ⟨k + 1, by omega, by go_num, HT2.out, HO2.out, HBw.out⟩
            case measure => simp [intOf]; omega
      · obtain rfl : k = n := by omega
        have hall : Cou.okAll a ks = true := by
          unfold Cou.okAll
          rw [List.all_eq_true]
          intro i hi
          exact hT i (by rw [List.mem_range, HN.out] at hi; exact hi)
        have HZ : Hid (Cou.playedR a ks = (Cou.allL 0 ks, 0)) := Lib.hid (by unfold Cou.playedR; rw [if_pos (by rw [HN.out, HND.out]), if_pos hall])
        rw [List.take_of_length_le (by rw [HN.out]; omega)] at hO
        have HO := Lib.hid hO
        have HB := Lib.hid hB
        have hgl := Cou.allL_len ks 0
        rw [HN.out] at hgl
        clear hT hO hB hall
        go_wp2_with fail
        go_ret2
        exact ⟨_, by rw [HZ.out]; rfl, by rw [HZ.out]; exact HO.out.sl (by omega) (fun b q1 q2 _ => ⟨by have := HBB.out; omega, q2⟩), Bt HB1.out HB.out⟩
  · have hq : ((ks.length : Int) != a.divs.length) = true := by simp; omega
    have HZ : Hid (Cou.playedR a ks = ([], 5)) := Lib.hid (by unfold Cou.playedR; rw [if_neg hlen])
    have HX := Lib.hid x0
    clear hw1 B1 had hap hA hP hT hlen x0 hBB
    generalize a.divs.length = dl at *
    generalize ks.length = kl at *
    go_enter Tryd.func50, Tryd.ntmps50
    go_upto_region 1 with fail
    rw [HW1.out, HBB.out]
    have x0 := HX.out
    go_wp2_with fail
    go_ret2
    exact ⟨_, by rw [HZ.out]; rfl, by rw [HZ.out]; exact Sl.nil_, HB1.out⟩
end Go.Proofs.YtnkjhppjjklgfaaDoor
