/- Walks over coupler: the closure 'take' of reach. Walks over coupler: contact; take for the played ones; reach. -/
import Derived.Test.YtahlfndlkfoikaaDoorKa
namespace Go.Proofs.YtahlfndlkfoikaaDoor
open Go Go.RowKit Go.Shelf
attribute [local go_sem] Oper.semAt_some
namespace Cou
/-- Coupler i takes c to t, where that is asked for. -/
def Cond (a : Ac) (second : Bool) (c : Ct) (i : Nat) (t : Ct) : Prop := (second = true → thruF a i = true) ∧ stepF a i c = some t
/-- What the queue holds behind some couplers. -/
structure LI (a : Ac) (second : Bool) (c : Ct) (Q : List Ct) {m : Nat} (pre : List (Fin m)) (Q' : List Ct) : Prop where
  pre_ : Q <+: Q'
  nd : Q'.Nodup
  inA : ∀ x ∈ Q', InA a x
  mem : ∀ t, t ∈ Q' ↔ t ∈ Q ∨ ∃ i ∈ pre, Cond a second c i.val t
variable {a : Ac} {second : Bool} {c : Ct} {Q Q' : List Ct} {m : Nat} {pre : List (Fin m)}
theorem LI.start (hn : Q.Nodup) (hi : ∀ x ∈ Q, InA a x) : LI a second c Q ([] : List (Fin m)) Q := ⟨List.prefix_refl _, hn, hi, fun t => by simp⟩
theorem LI.same (h : LI a second c Q pre Q') (i : Fin m) (hc : ∀ t, Cond a second c i.val t → t ∈ Q') : LI a second c Q (pre ++ [i]) Q' :=
  ⟨h.pre_, h.nd, h.inA, fun t => by
    rw [h.mem]
    constructor
    · rintro (q | ⟨j, hj, q⟩)
      · exact .inl q
      · exact .inr ⟨j, by simp [hj], q⟩
    · rintro (q | ⟨j, hj, q⟩)
      · exact .inl q
      · rcases List.mem_append.1 hj with hj | hj
        · exact .inr ⟨j, hj, q⟩
        · simp only [List.mem_singleton] at hj
          subst hj
          exact (h.mem t).1 (hc t q)⟩
theorem LI.add (h : LI a second c Q pre Q') (i : Fin m) {t : Ct} (hok : Ok a) (hc : Cond a second c i.val t) (hn : t ∉ Q') : LI a second c Q (pre ++ [i]) (Q' ++ [t]) :=
  ⟨h.pre_.trans (List.prefix_append _ _), by
    unfold List.Nodup at *
    rw [List.pairwise_append]
    exact ⟨h.nd, by simp, fun x hx y hy e => by simp only [List.mem_singleton] at hy; subst hy; subst e; exact hn hx⟩, fun x hx => by
      rcases List.mem_append.1 hx with hx | hx
      · exact h.inA x hx
      · simp only [List.mem_singleton] at hx; subst hx; exact stepF_in hok hc.2, fun s => by
    rw [List.mem_append, h.mem, List.mem_singleton]
    constructor
    · rintro ((q | ⟨j, hj, q⟩) | rfl)
      · exact .inl q
      · exact .inr ⟨j, by simp [hj], q⟩
      · exact .inr ⟨i, by simp, hc⟩
    · rintro (q | ⟨j, hj, q⟩)
      · exact .inl (.inl q)
      · rcases List.mem_append.1 hj with hj | hj
        · exact .inl (.inr ⟨j, hj, q⟩)
        · simp only [List.mem_singleton] at hj
          subst hj
          exact .inr (by have h1 := hc.2; have h2 := q.2; rw [h1] at h2; injection h2 with h2; exact h2.symm)⟩
end Cou
/-- What lies between two rounds of 'take'. -/
structure TI (a : Cou.Ac) (second : Bool) (c : Cou.Ct) (Q : List Cou.Ct) (ab qb mb sb base s : Nat) (vd vc : Value) (n₀ : Nat) (w : World) {m : Nat} (pre : List (Fin m)) (W : World) : Prop where
  li : ∃ v Q', Cou.LI a second c Q pre Q' ∧ QSt ab qb mb sb base vd vc a.drawn v Q' W ∧ v.ownBlock ≠ some s
  from_ : Blk W s 36 #[.int .i64 c.1, .int .i64 c.2]
  sec : Blk W (s + 1) 4 #[.bool second]
  bel : Below n₀ w W
theorem TI.turn {a : Cou.Ac} {second : Bool} {c : Cou.Ct} {Q : List Cou.Ct} {ab qb mb sb base s : Nat} {vd vc : Value} {n₀ : Nat} {w : World} {m : Nat} {B : Nat} (hB : mb < B) (hn : n₀ ≤ B) (hw : n₀ ≤ w.heap.size) : OwnFrom B (fun pre : List (Fin m) => TI a second c Q ab qb mb sb base s vd vc n₀ w pre) := fun pre A W row hs hg hr => by
  have hr' : ∀ r, row = some r → ∃ o : Obj, A.heap[r]? = some o ∧ o.isCells = false := fun r e => (hr r e).2
  obtain ⟨⟨v, Q', h1, h2, h3⟩, h4, h5, h6⟩ := hs
  exact ⟨⟨v, Q', h1, h2.turn hg fun r e => ⟨Nat.lt_of_lt_of_le hB (hr r e).1, (hr r e).2⟩, h3⟩, h4.grown hg (h4.not_turned hr'), h5.grown hg (h5.not_turned hr'), h6.grown hg (Nat.le_trans hw h6.size) fun k e => Nat.le_trans hn (hr k e).1⟩
theorem kf_below {B : Nat} {W W' : World} (hb : Below W.heap.size W W') : KeepsFrom B W W' := ⟨hb.size, fun k _ _ hk _ => (hb.block k (Array.getElem?_eq_some_iff.1 hk).1).trans hk⟩
theorem kf_row {B : Nat} {W W' : World} {row : Option Nat} (hg : W.grownBy W' row) (hrow : ∀ r, row = some r → ∃ o : Obj, W.heap[r]? = some o ∧ o.isCells = true) : KeepsFrom B W W' :=
  ⟨hg.size, fun k o _ hk ho => (hg.block k (Array.getElem?_eq_some_iff.1 hk).1 (fun e => by
    obtain ⟨o', h1, h2⟩ := hrow k e.symm
    rw [hk] at h1
    injection h1 with h1
    subst h1
    rw [ho] at h2; cases h2)).trans hk⟩
theorem kf_set (B : Nat) (W : World) (p : Addr) (u : Value) (hp : p.block < B) : KeepsFrom B W (W.setCell p u) :=
  ⟨by simp, fun k o hB hk _ => (Below.heap_setCell W p u k (by omega)).trans hk⟩
theorem own_cells {base : Nat} {e : TypeId} {k n : Nat} {w : World} {v : Value} {xs : List Value} (h : w.ownsRow base e k v n xs) : ∀ r, v.ownBlock = some r → ∃ o : Obj, w.heap[r]? = some o ∧ o.isCells = true := fun r hr => by
  rcases h.2 with ⟨q, _⟩ | ⟨g', cap, cur, hv2, _, hh, _⟩
  · rw [q] at hr; cases hr
  · rw [hv2] at hr
    injection hr with hr
    subst hr
    exact ⟨_, hh, rfl⟩
theorem own_ne {base : Nat} {e t : TypeId} {k n b : Nat} {w : World} {v : Value} {xs : List Value} {cs : Array Value} (h : w.ownsRow base e k v n xs) (hb : Blk w b t cs) (ht : t ≠ e) : v.ownBlock ≠ some b := fun hr => by
  rcases h.2 with ⟨q, _⟩ | ⟨g', cap, cur, hv2, _, hh, _⟩
  · rw [q] at hr; cases hr
  · rw [hv2] at hr
    injection hr with hr
    subst hr
    unfold Blk at hb
    rw [hh] at hb
    injection hb with hb
    injection hb with _ hb
    exact ht hb.symm
theorem inA_small {a : Cou.Ac} (h : Cou.Ok a) {c : Cou.Ct} (hc : Cou.InA a c) : CtS c := by
  have := hc.key h
  unfold CtS
  omega
set_option maxRecDepth 100000 in
set_option maxHeartbeats 4000000 in
theorem take_any (a : Cou.Ac) (hok : Cou.Ok a) (vd vc : Value) (F : Nat → Prop) (second : Bool) (c : Cou.Ct) (hcs : -1000 ≤ c.2 ∧ c.2 ≤ 1000) (ab qb mb sb base : Nat) (ho : QOrd ab qb mb sb base) (hF : ∀ b, F b → b < ab) (hg : 0 < ab) (v : Value) (Q : List Cou.Ct) (hn : Q.Nodup) (hi : ∀ x ∈ Q, Cou.InA a x)
    (w : World) (hA : AcAt F w vd vc a) (hT : Tab64 w) (hq : QSt ab qb mb sb base vd vc a.drawn v Q w) :
    Calls Tryd.prog 65 #[.agg #[.int .i64 c.1, .int .i64 c.2], .bool second, .pointer (some ⟨ab, 0, none⟩), .pointer (some ⟨sb, 0, none⟩), .pointer (some ⟨qb, 0, none⟩)] w fun e w' => (∃ r, e = .returned r) ∧
      ∃ v' Q', QSt ab qb mb sb base vd vc a.drawn v' Q' w' ∧ Q <+: Q' ∧ Q'.Nodup ∧ (∀ x ∈ Q', Cou.InA a x) ∧ (∀ t, t ∈ Q' ↔ t ∈ Q ∨ ∃ i, a.drawn.testBit i = true ∧ Cou.Cond a second c i t) ∧ Below (ab + 1) w w' := by
  obtain ⟨Ad, cd, hvd, _⟩ := id hA.dv.open
  obtain ⟨Ac, cc, hvc, _⟩ := id hA.cp.open
  refine (callsIn_wide (n := 8)).1 ?_
  refine callsIn_of_wp_marks Tryd.func65 rfl trivial ?_ rfl
  simp only [Tryd.ntmps65, List.size_toArray, List.length_cons, List.length_nil, Nat.reduceAdd, Nat.reduceSub, Array.replicate_succ, Array.replicate_zero, List.push_toArray, List.append_toArray, List.nil_append, List.cons_append]
  have a0 := hq.act.cell 0
  have a1 := hq.act.cell 1
  have a2 := hq.act.cell 2
  simp at a0 a1 a2
  have lab : ab < w.heap.size := hq.act.lt
  subst hvd; subst hvc
  gi_wp2
  refine ⟨trivial, ?_⟩
  refine (callsIn_wide.2 (drawn_any (.slice Ad a.divs.length cd) (.slice Ac a.cps.length cc) a.drawn ⟨_, _, _, rfl⟩ ⟨_, _, _, rfl⟩ _)).mono ?_
  rintro e w1 ⟨rfl, rfl⟩
  gi_wp2
  obtain ⟨s, hs⟩ : ∃ s, w.heap.size = s := ⟨_, rfl⟩
  obtain ⟨wL, hwL⟩ : ∃ wL : World, ((w.alloc (.cells #[.int .i64 c.1, .int .i64 c.2] 36)).alloc (.cells #[.bool second] 4)).alloc (.cells #[.slice Ad a.divs.length cd, .slice Ac a.cps.length cc, .int .u64 a.drawn] 33) = wL := ⟨_, rfl⟩
  have hszL : wL.heap.size = s + 3 := by rw [← hwL]; simp [hs]
  have hbL : Below w.heap.size w wL := by rw [← hwL]; exact Ba (Ba (Ba (B0 w) _) _) _
  have hcN : wL.cell? ⟨s + 1 + 1, 2, none⟩ = some (.int .u64 a.drawn) := by rw [← hwL, ← hs]; simp [go_sem]
  have hfr : Blk wL s 36 #[.int .i64 c.1, .int .i64 c.2] := by rw [← hwL, ← hs]; exact ((Blk.new w _ _).alloc _).alloc _
  have hse : Blk wL (s + 1) 4 #[.bool second] := by
    have := (Blk.new (w.alloc (.cells #[.int .i64 c.1, .int .i64 c.2] 36)) 4 #[.bool second]).alloc (.cells #[.slice Ad a.divs.length cd, .slice Ac a.cps.length cc, .int .u64 a.drawn] 33)
    rw [hwL] at this
    simpa [hs] using this
  rw [hwL, hs]
  have hqL := hq.keep hbL
  have hvs : v.ownBlock ≠ some s := fun e => by
    have := (hq.own.lt s e).2
    omega
  have hTI : TI a second c Q ab qb mb sb base s (.slice Ad a.divs.length cd) (.slice Ac a.cps.length cc) (ab + 1) w ([] : List (Fin a.cps.length)) wL :=
    ⟨⟨v, Q, .start hn hi, hqL, hvs⟩, hfr, hse, hbL.mono (by omega)⟩
  have hord := ho.aq
  have hord2 := ho.qm
  have hord3 := ho.ms
  have hord4 := ho.sb_
  have hbig := hq.big
  refine wpIn_rangeFunc_ownG rfl (by omega) (gf := 77) (lb := #[.pointer (some ⟨s + 1 + 1, 0, none⟩)]) rfl trivial (enters_of Tryd.func77 (by kernel_rfl) rfl)
    (drawn_stops 7 (by omega) a.cps.length (by have := hok.nc; omega) (s + 1 + 1) (ab + 1) (by omega) a.drawn hok.drawn wL (by omega) (hT.below hbL) hcN) belowK_t (belowK_b (by omega)) (Below.refl _ _) (fun _ => rfl)
    (fun pre W => TI a second c Q ab qb mb sb base s (.slice Ad a.divs.length cd) (.slice Ac a.cps.length cc) (ab + 1) w pre W)
    (fun _ _ _ => False) (TI.turn (by omega) (by omega) (by omega)) (fun _ _ _ _ _ hs _ _ => hs) hTI
    (fun i => { tmps := #[.agg #[.int .i64 c.1, .int .i64 c.2], .bool second, .pointer (some ⟨ab, 0, none⟩), .pointer (some ⟨sb, 0, none⟩), .pointer (some ⟨qb, 0, none⟩), .pointer (some ⟨s, 0, none⟩), .pointer (some ⟨s + 1, 0, none⟩), .int .i64 (i.val : Int), undef, undef, .agg #[.slice Ad a.divs.length cd, .slice Ac a.cps.length cc, .int .u64 a.drawn], .func (.func 77) #[] #[.pointer (some ⟨s + 1 + 1, 0, none⟩)], .int .i64 (i.val : Int), undef, undef, undef, undef, undef, undef, undef, undef, undef, undef, undef, undef, undef, undef, undef, undef, undef, undef, undef, undef, undef, undef, undef, undef, undef, undef, undef, undef, undef, undef], defers := [] }) ?assign ?body ?done ?stop
  case assign =>
    intro l x W K hK
    gi_wp2
    exact hK
  case body =>
    rintro l pre i W ⟨⟨v', Q', hL, hQ, hv⟩, hf, hs2, hB⟩ hlt
    have hA' := hA.onB (B := ab + 1) (fun b q => by have := hF b q; omega) hB
    have hST := step_any a hok _ _ i.val i.isLt c hcs a.drawn W F hA'
    obtain ⟨_, _, hvc, _, hat⟩ := hA'.cp.open
    injection hvc with r1 r2 r3
    subst r1; subst r3
    obtain ⟨ad, rfl, hfb, hfl⟩ := hat i.val i.isLt
    have q4 := hfl.f4 rfl
    have f0 := hf.cell 0
    have f1 := hf.cell 1
    have s0 := hs2.cell 0
    have b0 := hQ.act.cell 0
    have b1 := hQ.act.cell 1
    have b2 := hQ.act.cell 2
    have n0 := hQ.seen.cell 0
    have m0 := hQ.que.cell 0
    simp at f0 f1 s0 b0 b1 b2 n0 m0
    have hiI : (i.val : Int) < a.cps.length := by have := i.isLt; omega
    have hthr : Cou.thruF a i.val = a.cps[i.val].thru := by unfold Cou.thruF; rw [List.getElem?_eq_getElem i.isLt]
    clear hat hfl
    generalize hth : a.cps[i.val].thru = th at *
    have hsec : (second = true ∧ th = false) ∨ ((second = true ∧ th = true) ∨ second = false) := by cases second <;> cases th <;> simp
    rcases hsec with ⟨rfl, rfl⟩ | hsec
    · gi_wp2
      exact ⟨KeepsFrom.refl _ _, Below.refl _ _, ⟨v', Q', hL.same i fun t ht => absurd (ht.1 rfl) (by rw [hthr]; simp), hQ, hv⟩, hf, hs2, hB⟩
    · have hcond : ∀ t, Cou.stepF a i.val c = some t → Cou.Cond a second c i.val t := fun t ht => by
        refine ⟨fun h => ?_, ht⟩
        rcases hsec with ⟨_, e⟩ | e
        · rw [hthr, e]
        · rw [e] at h; cases h
      cases hst : Cou.stepF a i.val c with
      | none =>
        rw [hst] at hST
        simp only [stepV] at hST
        have hnc : ∀ t, ¬ Cou.Cond a second c i.val t := fun t ht => by have := ht.2; rw [hst] at this; cases this
        rcases hsec with ⟨rfl, rfl⟩ | rfl
        all_goals
          gi_wp2_with (refine ⟨trivial, ?_⟩; refine (CallsIn.inRound l (callsIn_wide.2 hST)).mono ?_; rintro e w3 ⟨rfl, hb3⟩; have hbN := Ba hb3 (.cells #[.int .i64 0, .int .i64 0] 36))
          exact ⟨kf_below hbN, hbN.mono (by have := hQ.big; omega), ⟨v', Q', hL.same i fun t ht => absurd ht (hnc t), hQ.keep hbN, hv⟩, hf.below hbN hf.lt, hs2.below hbN hs2.lt, hB.trans (hbN.mono (by have := hQ.big; omega))⟩
      | some t =>
        rw [hst] at hST
        simp only [stepV] at hST
        have hcd := hcond t hst
        have hts := inA_small hok (Cou.stepF_in hok hst)
        have hqs : ∀ x ∈ Q', CtS x := fun x hx => inA_small hok (hL.inA x hx)
        by_cases htm : t ∈ Q'
        · rcases hsec with ⟨rfl, rfl⟩ | rfl
          all_goals
            gi_wp2_with (refine ⟨trivial, ?_⟩; refine (CallsIn.inRound l (callsIn_wide.2 hST)).mono ?_; rintro e w3 ⟨rfl, hb3⟩; have hbN := Ba hb3 (.cells #[.int .i64 t.1, .int .i64 t.2] 36); have hqN := hQ.keep hbN; have hlk := seenC_look hqN.map hqs t hts; rw [decide_eq_true htm] at hlk; unfold ctV at hlk; have n1 := hqN.seen.cell 0; simp only [List.getElem?_toArray, List.getElem?_cons_zero] at n1)
            exact ⟨kf_below hbN, hbN.mono (by have := hQ.big; omega), ⟨v', Q', hL.same i fun t' ht' => by
              have h1 := ht'.2
              rw [hst] at h1
              injection h1 with h1
              subst h1; exact htm, hQ.keep hbN, hv⟩, hf.below hbN hf.lt, hs2.below hbN hs2.lt, hB.trans (hbN.mono (by have := hQ.big; omega))⟩
        · have hql : Q'.length ≤ 1024 := Cou.cts_short hok hL.nd hL.inA
          have hvq : ∀ b, v'.ownBlock = some b → b < W.heap.size := fun b e => (hQ.own.lt b e).2
          rcases hsec with ⟨rfl, rfl⟩ | rfl
          all_goals
            gi_wp2_with (first
              | (refine ⟨trivial, ?_⟩; refine (CallsIn.inRound l (callsIn_wide.2 hST)).mono ?_; rintro e w3 ⟨rfl, hb3⟩; have hbN := Ba hb3 (.cells #[.int .i64 t.1, .int .i64 t.2] 36); have hqN := hQ.keep hbN; have hlk := seenC_look hqN.map hqs t hts; rw [decide_eq_false htm] at hlk; obtain ⟨w5, hup, hm5, hg5⟩ := seenC_store hqN.map hqs t hts; unfold ctV at hlk hup; have n1 := hqN.seen.cell 0; have m1 := (hqN.que.grown hg5 (fun e => by injection e with e; omega)).cell 0; have hTo := (Blk.new w3 36 #[.int .i64 t.1, .int .i64 t.2]).grown hg5 (fun e => by injection e with e; have := hb3.size; have := hQ.big; omega); have t0 := hTo.cell 0; have t1 := hTo.cell 1; simp only [List.getElem?_toArray, List.getElem?_cons_zero, List.getElem?_cons_succ] at n1 m1 t0 t1; obtain ⟨cs, k1, k2, k3⟩ := hqN.own; have hrow5 := k3.kept hg5 (by cases hvo : v'.ownBlock with
                | none => exact .inl rfl
                | some g => refine .inr fun e => ?_; have := (hqN.own.lt g hvo).1; injection e with e; omega))
              | (gi_at_builtin; refine wpListIn_appS elemCt (by omega) rfl _ _ rfl base v' Q'.length _ rfl (hrow5.alloc _) ⟨w5.heap.size, 0, none⟩ 1 [.int .i64 t.1, .int .i64 t.2] rfl rfl (Flds.new w5 _ _) (by simp [Value.oneCell']) (by omega) (by omega) (Nat.le_trans hqN.big (Nat.le_trans hg5.size (by simp))) ?_; rintro g cap w8 hown8 hg8 hgg; have hque8 := ((hqN.que.grown hg5 (fun e => by injection e with e; omega)).alloc (.cells #[.int .i64 t.1, .int .i64 t.2] 36)).grown hg8 (fun e => by have := (hqN.own.lt qb e.symm).1; omega); have m8 := hque8.cell 0; have f8 := hque8.frozen 0; simp only [List.getElem?_toArray, List.getElem?_cons_zero] at m8))
            obtain ⟨nv, hnv⟩ : ∃ nv : Value, Value.slice (some ⟨g, 0, none⟩) (Q'.length + 1) cap = nv := ⟨_, rfl⟩
            obtain ⟨o6, ho6⟩ : ∃ o6 : Obj, Obj.cells #[.int .i64 t.1, .int .i64 t.2] 36 = o6 := ⟨_, rfl⟩
            have hvl : ∀ b, v'.ownBlock = some b → base ≤ b := fun b e => (hqN.own.lt b e).1
            have hsz3 := hb3.size
            have hsz5 : w3.heap.size + 1 ≤ w5.heap.size := by have := hg5.size; simpa using this
            have e5 : ∀ k, k ≠ mb → some k ≠ some mb := fun k hk e => hk (by injection e)
            have e8 : ∀ k, k < base → some k ≠ v'.ownBlock := fun k hk e => by have := hvl k e.symm; omega
            have hsec8 : some (s + 1) ≠ v'.ownBlock := fun e => own_ne k3 (hs2.below hbN hs2.lt) (by decide) e.symm
            rw [ho6] at hg8
            rw [hnv] at hown8 ⊢
            have hmap : SeenC (Q' ++ [t]) mb (w8.setCell ⟨qb, 0, none⟩ nv) := hm5.of_block (((Below.heap_setCell w8 ⟨qb, 0, none⟩ nv mb (by simp; omega)).trans (hg8.block mb (Nat.lt_of_lt_of_le hm5.lt (by simp)) (e8 mb (by omega)))).trans (Below.heap_alloc w5 o6 mb hm5.lt))
            have hown9 : OwnL base 36 2 CtC (w8.setCell ⟨qb, 0, none⟩ nv) nv (Q' ++ [t]) := OwnL.snoc k1 k2 rfl rfl (fun _ _ h => h) (ownsRow_setCell_below hown8 (by simp; omega) _)
            have hque9 : Blk (w8.setCell ⟨qb, 0, none⟩ nv) qb 38 #[nv] := hque8.set_ 0 nv
            have hbk : ∀ {k : Nat} {ty : TypeId} {cs' : Array Value}, k ≠ mb → k ≠ qb → some k ≠ v'.ownBlock → Blk W k ty cs' → Blk (w8.setCell ⟨qb, 0, none⟩ nv) k ty cs' := fun h1 h2 h3 hk => (((((hk.below hbN hk.lt).grown hg5 (e5 _ h1)).alloc o6).grown hg8 h3).far h2 nv)
            have hsz8 := hg8.size
            have hsz6 : w5.heap.size + 1 ≤ w8.heap.size := by simpa using hsz8
            have hne : nv.ownBlock ≠ some s := by
              rw [← hnv]
              intro e
              have e2 : g = s := by simpa [Value.ownBlock] using e
              subst e2
              rcases hgg with q | q
              · exact hv q.symm
              · have := hf.lt; simp only [World.size_alloc] at q; omega
            have hb9 : Below (ab + 1) W (w8.setCell ⟨qb, 0, none⟩ nv) := by
              have hbg := hQ.big
              have x1 := hbN.mono (show ab + 1 ≤ W.heap.size by omega)
              have x2 := x1.grown hg5 (by simp; omega) (fun k e => by injection e with e; omega)
              have x3 := x2.alloc (show ab + 1 ≤ w5.heap.size by omega) o6
              have x4 := x3.grown hg8 (by simp; omega) (fun k e => by have := hvl k e; omega)
              exact x4.setCell (by simp; omega) nv
            refine ⟨(kf_below hbN).trans ((KeepsFrom.of_grownBy hg5 (fun j e => by injection e with e; omega)).trans ((kf_below (Ba (B0 w5) o6)).trans ((kf_row hg8 (own_cells (hrow5.alloc o6))).trans (kf_set _ _ _ _ (by simp; omega))))), ?_, ⟨nv, Q' ++ [t], hL.add i hok hcd htm, ⟨hbk (by omega) (by omega) (e8 _ (by omega)) hQ.act, hbk (by omega) (by omega) (e8 _ (by omega)) hQ.seen, hque9, hown9, hmap, by have := hQ.big; simp; omega⟩, hne⟩, hbk (by omega) (by omega) (fun e => hv e.symm) hf, hbk (by omega) (by omega) hsec8 hs2, ?_⟩
            · exact hb9
            · exact hB.trans hb9
  case done =>
    rintro D ys W hD hys ⟨⟨v', Q', hL, hQ, hv⟩, hf, hs2, hB⟩ hK
    gi_wp2
    refine ⟨by simp, .inl ⟨_, _, rfl, run_takeDeferred hK, ?_⟩⟩
    have hgr := grownBy_putObj' W D (.deferred none)
    refine ⟨_, results_none rfl _ _ _, ⟨_, rfl⟩, v', Q', hQ.turn hgr (fun r e => by cases e; exact ⟨by omega, _, hK, rfl⟩), hL.pre_, hL.nd, hL.inA, fun t => ?_, hB.grown hgr (Nat.le_trans (by omega) hB.size) (fun k e => by cases e; omega)⟩
    rw [hL.mem]
    constructor
    · rintro (q | ⟨i, hi, q⟩)
      · exact .inl q
      · have := List.mem_map_of_mem (f := Fin.val) hi
        rw [hys] at this
        exact .inr ⟨i.val, (Hit.mem_members.1 this).2, q⟩
    · rintro (q | ⟨i, hi, q⟩)
      · exact .inl q
      · have h2 := hok.drawn
        have hi2 : i < a.cps.length := by
          rcases Nat.lt_or_ge i a.cps.length with h | h
          · exact h
          · rw [Nat.testBit_lt_two_pow (Nat.lt_of_lt_of_le h2 (Nat.pow_le_pow_right (by decide) h))] at hi; cases hi
        have hm : i ∈ ys.map Fin.val := by rw [hys]; exact Hit.mem_members.2 ⟨by have := hok.nc; omega, hi⟩
        obtain ⟨j, hj, rfl⟩ := List.mem_map.1 hm
        exact .inr ⟨j, hj, q⟩
  case stop =>
    rintro D c pre W _ _ h _
    exact h.elim
end Go.Proofs.YtahlfndlkfoikaaDoor
namespace Go.Proofs.YtahlfndlkfoikaaDoor
open Go Go.RowKit Go.Shelf
namespace Cou
/-- What contact answers. -/
def wrongF (a : Ac) (c : Ct) : Int := if c.1 < 0 ∨ (a.divs.length : Int) ≤ c.1 then 10 else bif inB (a.divs.getD c.1.toNat (0, -1)) c.2 then 0 else 23
end Cou
set_option maxRecDepth 100000 in
set_option maxHeartbeats 4000000 in
theorem contact_any (a : Cou.Ac) (_hok : Cou.Ok a) (vd vc : Value) (c : Cou.Ct) (dr : Int) (w : World) (F : Nat → Prop) (hA : AcAt F w vd vc a) :
    Calls Tryd.prog 51 #[.agg #[vd, vc, .int .u64 dr], .agg #[.int .i64 c.1, .int .i64 c.2]] w fun e w' => e = .returned (.int .i64 (Cou.wrongF a c)) ∧ Below w.heap.size w w' := by
  obtain ⟨Ad, cd, rfl, _, had⟩ := hA.dv.open
  have hFF := hA.inW
  obtain ⟨c1, c2⟩ := c
  by_cases h1 : c1 < 0
  · have HZ : Hid (Cou.wrongF a (c1, c2) = 10) := Lib.hid (by unfold Cou.wrongF; rw [if_pos (.inl h1)])
    have d1 : decide (c1 < 0) = true := decide_eq_true h1
    clear hA had h1
    dsimp only
    go_enter Tryd.func51, Tryd.ntmps51
    go_wp2
    go_ret
    exact ⟨by rw [HZ.out]; rfl, Ba (Ba (B0 w) _) _⟩
  · have d1 : decide (c1 < 0) = false := decide_eq_false h1
    by_cases h2 : (a.divs.length : Int) ≤ c1
    · have HZ : Hid (Cou.wrongF a (c1, c2) = 10) := Lib.hid (by unfold Cou.wrongF; rw [if_pos (.inr h2)])
      have d2 : decide ((a.divs.length : Int) ≤ c1) = true := decide_eq_true h2
      clear hA had h1 h2
      dsimp only
      generalize a.divs.length = dl at *
      go_enter Tryd.func51, Tryd.ntmps51
      go_wp2
      go_ret
      exact ⟨by rw [HZ.out]; rfl, Ba (Ba (B0 w) _) _⟩
    · have d2 : decide ((a.divs.length : Int) ≤ c1) = false := decide_eq_false h2
      obtain ⟨tn, rfl⟩ : ∃ tn : Nat, c1 = tn := ⟨c1.toNat, by omega⟩
      have htl : tn < a.divs.length := by omega
      obtain ⟨ad2, rfl, hf2, hfl2⟩ := had tn htl
      have hz : Cou.wrongF a (tn, c2) = bif Cou.inB (a.divs.getD tn (0, -1)) c2 then 0 else 23 := by
        unfold Cou.wrongF
        rw [if_neg (by dsimp only; omega)]
        simp only [Int.toNat_natCast]
      rw [List.getD_eq_getElem?_getD, List.getElem?_eq_getElem htl] at hz
      dsimp only [Option.getD] at hz
      have HZ := Lib.hid hz
      have hfb2 : (ad2.add (tn * 2)).block < w.heap.size := by rw [block_of_add]; exact hFF _ hf2
      clear hA had hz h1 h2
      generalize a.divs[tn] = y at *
      obtain ⟨lo, hi2⟩ := y
      have r0 := hfl2.f0 rfl
      have r1 := hfl2.f1 rfl
      have hn0 : (0 : Int) ≤ (tn : Int) := by omega
      have hn1 : (tn : Int) < a.divs.length := by omega
      clear hfl2
      generalize a.divs.length = dl at *
      dsimp only at HZ ⊢
      go_enter Tryd.func51, Tryd.ntmps51
      go_upto_region 3 with fail
      obtain ⟨w1, hw1⟩ : ∃ w1 : World, (w.alloc (.cells #[.slice (some ad2) dl cd, vc, .int .u64 dr] 33)).alloc (.cells #[.int .i64 tn, .int .i64 c2] 36) = w1 := ⟨_, rfl⟩
      have e0 : w1.cell? ⟨w.heap.size, 0, none⟩ = some (.slice (some ad2) dl cd) := by rw [← hw1]; simp [go_sem]
      have g0 : w1.cell? ⟨w.heap.size + 1, 0, none⟩ = some (.int .i64 tn) := by rw [← hw1]; simp [go_sem]
      have g1 : w1.cell? ⟨w.heap.size + 1, 1, none⟩ = some (.int .i64 c2) := by rw [← hw1]; simp [go_sem]
      have l1 : w.heap.size + 1 < w1.heap.size := by rw [← hw1]; simp
      have l2 : w.heap.size < w1.heap.size := by omega
      have hB1 : Below w.heap.size w w1 := by rw [← hw1]; exact Ba (Ba (B0 w) _) _
      replace r0 := (hB1.cell (p := ad2.add (tn * 2)) hfb2).trans r0
      replace r1 := (hB1.cell (p := ⟨(ad2.add (tn * 2)).block, (ad2.add (tn * 2)).off + 1, none⟩) hfb2).trans r1
      have l5 : (ad2.add (tn * 2)).block < w1.heap.size := Nat.lt_of_lt_of_le hfb2 (Nat.le_of_lt l2)
      rw [hw1]
      have HI := Lib.hid (in_any lo hi2 c2 w1.drew)
      have HB1 := Lib.hid hB1
      clear hw1 hB1 hfb2
      cases hin : Cou.inB (lo, hi2) c2 with
      | true =>
        rw [hin, cond_true] at HZ
        rw [hin] at HI
        clear hin
        go_region_held3 (fun w' => Below w1.heap.size w1 w' ∧ w'.cell? ⟨w.heap.size + 1, 0, none⟩ = some (.int .i64 tn) ∧ w'.cell? ⟨w.heap.size + 1, 1, none⟩ = some (.int .i64 c2) ∧ w'.cell? ⟨w.heap.size, 0, none⟩ = some (.slice (some ad2) dl cd) ∧ w'.cell? (ad2.add (tn * 2)) = some (.int .i64 lo) ∧ w'.cell? ⟨(ad2.add (tn * 2)).block, (ad2.add (tn * 2)).off + 1, none⟩ = some (.int .i64 hi2))
          (first | exact ⟨(B0 _).drew, g0, g1, e0, r0, r1⟩ | exact ⟨hbn, (Bc hbn l1).trans g0, (Bc hbn l1).trans g1, (Bc hbn l2).trans e0, (hbn.cell (p := ad2.add (tn * 2)) l5).trans r0, (hbn.cell (p := ⟨(ad2.add (tn * 2)).block, (ad2.add (tn * 2)).off + 1, none⟩) l5).trans r1⟩)
          ((go_at_call 64; (with_reducible refine (HI.out.mono ?_)); rintro e w3 ⟨rfl, hb3⟩; have hbn := Bt (B0 w1).drew hb3))
        all_goals
          go_wp2
          go_ret
          exact ⟨by rw [HZ.out]; rfl, Bt HB1.out hbn⟩
      | false =>
        rw [hin, cond_false] at HZ
        rw [hin] at HI
        clear hin
        go_region_held3 (fun w' => Below w1.heap.size w1 w' ∧ w'.cell? ⟨w.heap.size + 1, 0, none⟩ = some (.int .i64 tn) ∧ w'.cell? ⟨w.heap.size + 1, 1, none⟩ = some (.int .i64 c2) ∧ w'.cell? ⟨w.heap.size, 0, none⟩ = some (.slice (some ad2) dl cd) ∧ w'.cell? (ad2.add (tn * 2)) = some (.int .i64 lo) ∧ w'.cell? ⟨(ad2.add (tn * 2)).block, (ad2.add (tn * 2)).off + 1, none⟩ = some (.int .i64 hi2))
          (first | exact ⟨(B0 _).drew, g0, g1, e0, r0, r1⟩ | exact ⟨hbn, (Bc hbn l1).trans g0, (Bc hbn l1).trans g1, (Bc hbn l2).trans e0, (hbn.cell (p := ad2.add (tn * 2)) l5).trans r0, (hbn.cell (p := ⟨(ad2.add (tn * 2)).block, (ad2.add (tn * 2)).off + 1, none⟩) l5).trans r1⟩)
          ((go_at_call 64; (with_reducible refine (HI.out.mono ?_)); rintro e w3 ⟨rfl, hb3⟩; have hbn := Bt (B0 w1).drew hb3))
        all_goals
          go_wp2
          go_ret
          exact ⟨by rw [HZ.out]; rfl, Bt HB1.out hbn⟩
end Go.Proofs.YtahlfndlkfoikaaDoor
