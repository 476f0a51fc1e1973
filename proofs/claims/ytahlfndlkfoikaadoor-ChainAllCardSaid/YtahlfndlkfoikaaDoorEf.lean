/- Walks over chain: all. -/
import Derived.Test.YtahlfndlkfoikaaDoorQ2
import Derived.Test.YtahlfndlkfoikaaDoorQ1
import Derived.Test.YtahlfndlkfoikaaDoorEr
import Derived.Test.YtahlfndlkfoikaaDoorRegW
namespace Go.Proofs.YtahlfndlkfoikaaDoor
open Go Go.RowKit Go.Shelf
set_option maxRecDepth 100000 in
/-- A row of links grows by a row of links. -/
theorem run_append_lk {base B2 : Nat} {w : World} {v r : Value} {q m : List Cha.Lk} (hq : OwnLk base w v q) (hm : OwnLk B2 w r m) (hl : q.length + m.length ≤ 1000000) (hbase : base ≤ w.heap.size) (ty : TypeId) :
    ∃ v' w', (Builtin.append_ #[105, 105] ty #[v, r]).run Tryd.prog w = .ok v' w' ∧ OwnLk base w' v' (q ++ m) ∧ w.grownBy w' v.ownBlock := by
  obtain ⟨cs, p1, p2, p3⟩ := hq
  have hsl := hm.sl (F := fun b => b < w.heap.size) (by omega) fun b _ h _ => h
  obtain ⟨A, c, hv, _⟩ := id hsl
  subst hv
  obtain ⟨ds, e1, e2, e3⟩ := Sl.cells hsl (fun _ h => h)
  obtain ⟨ht, i, z, hi, hz, hsz, hby, hzs⟩ := elemLk
  have h1 : ∀ u ∈ ds.flatten, u.oneCell' = true := by
    intro u hu
    obtain ⟨d, hd, hud⟩ := List.mem_flatten.1 hu
    obtain ⟨k, hk, rfl⟩ := List.getElem_of_mem hd
    obtain ⟨x, hx, _, hr⟩ := e2 k (by omega)
    rw [List.getElem?_eq_getElem hk] at hx
    injection hx with hx
    obtain ⟨s1, s2, he, ha, hb⟩ := hr
    rw [hx, he] at hud
    obtain ⟨_, _, rfl, _⟩ := ha
    obtain ⟨_, _, rfl, _⟩ := hb
    simp only [List.mem_cons, List.not_mem_nil, or_false] at hud
    rcases hud with rfl | rfl <;> rfl
  obtain ⟨v', w', hrun, h2, h3, _⟩ := run_append_any (P := Tryd.prog) w base 105 ty 109 i z 2 48 ht hi hz hsz hby hzs (by omega) v q.length cs.flatten p3 w.heap.size A m.length c ds.flatten e3 h1
    (by unfold maxLen; omega) (by omega) hbase
  refine ⟨v', w', hrun, ⟨cs ++ ds, by simp [p1, e1], fun k hk => ?_, by rw [List.flatten_append, List.length_append]; exact h2⟩, h3⟩
  have hrow := isC_own p3 (show 109 ≠ 3 by decide) (by decide)
  rcases Nat.lt_or_ge k q.length with hlt | hge
  · obtain ⟨d, a, b, r⟩ := p2 k hlt
    refine ⟨d, by rw [List.getElem?_append_left (by omega)]; exact a, b, ?_⟩
    rw [List.getElem_append_left hlt]
    exact r.grown h3 hrow
  · obtain ⟨d, a, b, r⟩ := e2 (k - q.length) (by simp at hk; omega)
    refine ⟨d, by rw [List.getElem?_append_right (by omega), p1]; exact a, b, ?_⟩
    rw [List.getElem_append_right hge]
    exact r.grown h3 hrow
section
variable {ops : Array Oper} {rest : List Oper} {o : Oper} {a : Act} {Q : Exit → Act → World → Prop} {w : World}
theorem wpList_append_lk (hgd : o.guard = none) (s x : Operand) (ho : o.op = .call { callee := .builtin .append, args := #[s, x], argTypes := #[105, 105] })
    {base B2 : Nat} {v r : Value} {q m : List Cha.Lk} (hs : a.eval s = v) (hx : a.eval x = r) (hq : OwnLk base w v q) (hm : OwnLk B2 w r m) (hl : q.length + m.length ≤ 1000000) (hbase : base ≤ w.heap.size)
    (h : ∀ A c w', OwnLk base w' (.slice A (q ++ m).length c) (q ++ m) → w.grownBy w' v.ownBlock → wpList Tryd.prog ops Q rest (a.put o.dst (.slice A (q ++ m).length c)) w') : wpList Tryd.prog ops Q (o :: rest) a w :=
  wpList_plain hgd fun K hK => by
    obtain ⟨v', w', hrun, h2, h3⟩ := run_append_lk hq hm hl hbase o.type
    have hv : ∃ A c, v' = .slice A (q ++ m).length c := by
      obtain ⟨cs, _, _, k3⟩ := h2
      rcases k3.2 with ⟨e, e2⟩ | ⟨g, cap, cur, e, _⟩
      · exact ⟨none, 0, by rw [e, e2]⟩
      · exact ⟨_, _, e⟩
    obtain ⟨A, c, rfl⟩ := hv
    unfold Oper.wp execOp
    simp only [ho, resolve, invoke, builtin, Sem.run_bind, Sem.run_pure, Result.andThen_ok, List.map_toArray, List.map_cons, List.map_nil, hs, hx, hrun]
    exact hK _ _ (h A c w' h2 h3)
end
namespace Cha
theorem IsCh.nodup {a : Cou.Ac} {key : Cou.Ct} {cs : List Int} {ts : List Cou.Ct} (h : IsCh a key cs ts) : ts.Nodup := by
  induction h with
  | one _ _ => simp
  | snoc _ _ _ _ h4 ih =>
    rw [List.nodup_append]
    refine ⟨ih, by simp, fun x hx y hy => ?_⟩
    simp only [List.mem_singleton] at hy
    subst hy
    rintro rfl
    exact h4 hx
theorem lastF_get {l : List Cou.Ct} {n : Nat} (hn : l.length = n) (h : n - 1 < l.length) : l[n - 1] = lastF l := by
  subst hn
  unfold lastF
  rw [List.getLastD_eq_getLast?, List.getLast?_eq_getElem?, List.getElem?_eq_getElem h]
  rfl
theorem IsCh.short {a : Cou.Ac} (hok : Cou.Ok a) {key : Cou.Ct} {cs : List Int} {ts : List Cou.Ct} (h : IsCh a key cs ts) : ts.length ≤ 1024 := Cou.cts_short hok h.nodup (h.inA hok)
end Cha
theorem inA_cts {a : Cou.Ac} (hok : Cou.Ok a) {c : Cou.Ct} (h : Cou.InA a c) : CtS c := by
  have := h.key hok
  exact ⟨by omega, by omega, by omega, by omega⟩
/-- A link of a row. -/
theorem OwnLk.at_ {base : Nat} {w : World} {v : Value} {q : List Cha.Lk} (h : OwnLk base w v q) (hl : q.length ≤ 1000000) {i : Nat} (hi : i < q.length) : ∃ ad c u Av cv, v = .slice (some ad) q.length c ∧ ad.block < w.heap.size ∧ Flds w (ad.add (i * 2)) [u, .slice Av q[i].2.length cv] ∧ SlI (IsC w) w u q[i].1 ∧ SlCt (IsC w) w (.slice Av q[i].2.length cv) q[i].2 := by
  obtain ⟨A, c, hv, _, _, hat⟩ := h.sl (F := fun b => b < w.heap.size) (by omega) fun b _ h _ => h
  obtain ⟨ad, cs, rfl, hb, _, ⟨u, s2, rfl, h1, h2⟩, hfl⟩ := hat i hi
  obtain ⟨Av, cv, rfl, _⟩ := id h2
  exact ⟨ad, c, u, Av, cv, hv, hb, hfl, h1, h2⟩
theorem own_own_ne {w : World} {base base' : Nat} {e e' : TypeId} {k k' n n' : Nat} {v v' : Value} {xs xs' : List Value} (h : w.ownsRow base e k v n xs) (h' : w.ownsRow base' e' k' v' n' xs') (hne : e ≠ e') : v.ownBlock = none ∨ v.ownBlock ≠ v'.ownBlock := by
  rcases h'.2 with ⟨rfl, _⟩ | ⟨g', cap, cur, rfl, _, hh, _⟩
  · cases hv : v.ownBlock with
    | none => exact .inl rfl
    | some b => exact .inr (by simp [Value.ownBlock])
  · exact .inr (own_blk_ne h (show Blk w g' e' cur from hh) hne)
theorem OwnLk.grown {w w' : World} {base : Nat} {v : Value} {q : List Cha.Lk} {row : Option Nat} (h : OwnLk base w v q) (hg : w.grownBy w' row) (hr : ∀ b, IsC w b → some b ≠ row) (hv : v.ownBlock = none ∨ v.ownBlock ≠ row) : OwnLk base w' v q :=
  OwnL.keep h rfl (fun _ hx => hx.kept hg hv) fun _ _ hc => hc.grown hg hr
/-- What holds behind each operation of a drawn region. -/
def FA1 (a : Cou.Ac) (base bl n cv cd cc dl cl : Nat) (dr : Int) (Ad Ac : Option Addr) (ad : Addr) (v u : Value) (l1 l2 : Int) (x : Cha.Lk) (j : Nat) (s : Nat → Value) (w : World) : Prop :=
  match j with
  | 0 => s 29 = v
  | 1 => s 30 = .agg #[.slice Ad dl cd, .slice Ac cl cc, .int .u64 dr]
  | 2 => s 31 = .agg #[u, .slice (some ad) n cv]
  | 3 => s 32 = .pointer (some ⟨bl, 1, none⟩)
  | 4 => s 33 = .slice (some ad) n cv
  | 5 => s 34 = .pointer (some ⟨bl, 1, none⟩)
  | 6 => s 35 = .slice (some ad) n cv
  | 7 => s 36 = .int .i64 n
  | 8 => s 37 = .int .i64 ((n - 1 : Nat) : Int)
  | 9 => s 38 = .pointer (some (ad.add ((n - 1) * 2)))
  | 10 => s 39 = .agg #[.int .i64 l1, .int .i64 l2]
  | 11 => OwnLk base w (s 40) (Cha.moreF a x (l1, l2))
  | _ => True
def VA1 (j : Nat) : List Nat := match j with
  | 0 => [29] | 1 => [30] | 2 => [31] | 3 => [32] | 4 => [33] | 5 => [34] | 6 => [35] | 7 => [36] | 8 => [37] | 9 => [38] | 10 => [39] | 11 => [40] | _ => []
def EA1 (j : Nat) : Bool := j == 0 || j == 11
theorem FA1_V (a : Cou.Ac) (base bl n cv cd cc dl cl : Nat) (dr : Int) (Ad Ac : Option Addr) (ad : Addr) (v u : Value) (l1 l2 : Int) (x : Cha.Lk) (j : Nat) (s s' : Nat → Value) (w : World) (h : ∀ t, t ∈ VA1 j → s' t = s t) (hF : FA1 a base bl n cv cd cc dl cl dr Ad Ac ad v u l1 l2 x j s w) : FA1 a base bl n cv cd cc dl cl dr Ad Ac ad v u l1 l2 x j s' w := by
  match j with
  | 0 => unfold FA1 at hF ⊢; simp only at hF ⊢; rw [h 29 (by simp [VA1])]; exact hF
  | 1 => unfold FA1 at hF ⊢; simp only at hF ⊢; rw [h 30 (by simp [VA1])]; exact hF
  | 2 => unfold FA1 at hF ⊢; simp only at hF ⊢; rw [h 31 (by simp [VA1])]; exact hF
  | 3 => unfold FA1 at hF ⊢; simp only at hF ⊢; rw [h 32 (by simp [VA1])]; exact hF
  | 4 => unfold FA1 at hF ⊢; simp only at hF ⊢; rw [h 33 (by simp [VA1])]; exact hF
  | 5 => unfold FA1 at hF ⊢; simp only at hF ⊢; rw [h 34 (by simp [VA1])]; exact hF
  | 6 => unfold FA1 at hF ⊢; simp only at hF ⊢; rw [h 35 (by simp [VA1])]; exact hF
  | 7 => unfold FA1 at hF ⊢; simp only at hF ⊢; rw [h 36 (by simp [VA1])]; exact hF
  | 8 => unfold FA1 at hF ⊢; simp only at hF ⊢; rw [h 37 (by simp [VA1])]; exact hF
  | 9 => unfold FA1 at hF ⊢; simp only at hF ⊢; rw [h 38 (by simp [VA1])]; exact hF
  | 10 => unfold FA1 at hF ⊢; simp only at hF ⊢; rw [h 39 (by simp [VA1])]; exact hF
  | 11 => unfold FA1 at hF ⊢; simp only at hF ⊢; rw [h 40 (by simp [VA1])]; exact hF
  | _ + 12 => trivial
theorem FA1_below (a : Cou.Ac) (base bl n cv cd cc dl cl : Nat) (dr : Int) (Ad Ac : Option Addr) (ad : Addr) (v u : Value) (l1 l2 : Int) (x : Cha.Lk) (j : Nat) (s : Nat → Value) (w w' : World) (hb : Below w.heap.size w w') (hF : FA1 a base bl n cv cd cc dl cl dr Ad Ac ad v u l1 l2 x j s w) : FA1 a base bl n cv cd cc dl cl dr Ad Ac ad v u l1 l2 x j s w' := by
  match j with
  | 0 => exact hF
  | 1 => exact hF
  | 2 => exact hF
  | 3 => exact hF
  | 4 => exact hF
  | 5 => exact hF
  | 6 => exact hF
  | 7 => exact hF
  | 8 => exact hF
  | 9 => exact hF
  | 10 => exact hF
  | 11 => exact OwnLk.below hF hb
  | _ + 12 => trivial
/-- What holds behind each operation of a drawn region. -/
def FA2 (bl n cv : Nat) (ad : Addr) (v u : Value) (l1 l2 : Int) (j : Nat) (s : Nat → Value) (w : World) : Prop :=
  match j with
  | 0 => s 48 = v
  | 1 => s 49 = .pointer (some ⟨bl, 0, none⟩)
  | 2 => s 50 = u
  | 3 => s 51 = .pointer (some ⟨bl, 1, none⟩)
  | 4 => s 52 = .slice (some ad) n cv
  | 5 => s 53 = .pointer (some ⟨bl, 1, none⟩)
  | 6 => s 54 = .slice (some ad) n cv
  | 7 => s 55 = .int .i64 n
  | 8 => s 56 = .int .i64 ((n - 1 : Nat) : Int)
  | 9 => s 57 = .pointer (some (ad.add ((n - 1) * 2)))
  | 10 => s 58 = .agg #[.int .i64 l1, .int .i64 l2]
  | 11 => s 59 = .agg #[u, .int .i64 l1, .int .i64 l2]
  | 12 => ∃ g, s 60 = .slice (some ⟨g, 0, none⟩) 1 1 ∧ g < w.heap.size ∧ Flds w ⟨g, 0, none⟩ [u, .int .i64 l1, .int .i64 l2]
  | _ => True
def VA2 (j : Nat) : List Nat := match j with
  | 0 => [48] | 1 => [49] | 2 => [50] | 3 => [51] | 4 => [52] | 5 => [53] | 6 => [54] | 7 => [55] | 8 => [56] | 9 => [57] | 10 => [58] | 11 => [59] | 12 => [60] | _ => []
def EA2 (j : Nat) : Bool := j == 0 || j == 12
theorem FA2_V (bl n cv : Nat) (ad : Addr) (v u : Value) (l1 l2 : Int) (j : Nat) (s s' : Nat → Value) (w : World) (h : ∀ t, t ∈ VA2 j → s' t = s t) (hF : FA2 bl n cv ad v u l1 l2 j s w) : FA2 bl n cv ad v u l1 l2 j s' w := by
  match j with
  | 0 => unfold FA2 at hF ⊢; simp only at hF ⊢; rw [h 48 (by simp [VA2])]; exact hF
  | 1 => unfold FA2 at hF ⊢; simp only at hF ⊢; rw [h 49 (by simp [VA2])]; exact hF
  | 2 => unfold FA2 at hF ⊢; simp only at hF ⊢; rw [h 50 (by simp [VA2])]; exact hF
  | 3 => unfold FA2 at hF ⊢; simp only at hF ⊢; rw [h 51 (by simp [VA2])]; exact hF
  | 4 => unfold FA2 at hF ⊢; simp only at hF ⊢; rw [h 52 (by simp [VA2])]; exact hF
  | 5 => unfold FA2 at hF ⊢; simp only at hF ⊢; rw [h 53 (by simp [VA2])]; exact hF
  | 6 => unfold FA2 at hF ⊢; simp only at hF ⊢; rw [h 54 (by simp [VA2])]; exact hF
  | 7 => unfold FA2 at hF ⊢; simp only at hF ⊢; rw [h 55 (by simp [VA2])]; exact hF
  | 8 => unfold FA2 at hF ⊢; simp only at hF ⊢; rw [h 56 (by simp [VA2])]; exact hF
  | 9 => unfold FA2 at hF ⊢; simp only at hF ⊢; rw [h 57 (by simp [VA2])]; exact hF
  | 10 => unfold FA2 at hF ⊢; simp only at hF ⊢; rw [h 58 (by simp [VA2])]; exact hF
  | 11 => unfold FA2 at hF ⊢; simp only at hF ⊢; rw [h 59 (by simp [VA2])]; exact hF
  | 12 => unfold FA2 at hF ⊢; simp only at hF ⊢; rw [h 60 (by simp [VA2])]; exact hF
  | _ + 13 => trivial
theorem FA2_below (bl n cv : Nat) (ad : Addr) (v u : Value) (l1 l2 : Int) (j : Nat) (s : Nat → Value) (w w' : World) (hb : Below w.heap.size w w') (hF : FA2 bl n cv ad v u l1 l2 j s w) : FA2 bl n cv ad v u l1 l2 j s w' := by
  match j with
  | 0 => exact hF
  | 1 => exact hF
  | 2 => exact hF
  | 3 => exact hF
  | 4 => exact hF
  | 5 => exact hF
  | 6 => exact hF
  | 7 => exact hF
  | 8 => exact hF
  | 9 => exact hF
  | 10 => exact hF
  | 11 => exact hF
  | 12 => obtain ⟨g, q1, q2, q3⟩ := hF; exact ⟨g, q1, Nat.lt_of_lt_of_le q2 hb.size, q3.below hb q2⟩
  | _ + 13 => trivial
set_option maxRecDepth 100000 in
set_option maxHeartbeats 4000000 in
theorem all_any (a : Cou.Ac) (hok : Cou.Ok a) (vd vc : Value) (hdr : a.drawn < 2 ^ 64) (key : Cou.Ct) (hk : CtS key) (w : World) (F : Nat → Prop) (hA : AcAt F w vd vc a) :
    Calls Tryd.prog 54 #[.agg #[vd, vc, .int .u64 a.drawn], .agg #[.int .i64 key.1, .int .i64 key.2]] w fun e w' => ∃ v, e = .returned (.tuple #[v, .bool (Cha.allF a key).isSome]) ∧ (∀ L, Cha.allF a key = some L → OwnCh w.heap.size w' v L) ∧ Below w.heap.size w w' := by
  obtain ⟨Ad, cd, hvd, -, -⟩ := id hA.dv.open
  obtain ⟨Ac, cc, hvc, -, -⟩ := id hA.cp.open
  subst hvd hvc
  have hF := hA.inW
  have h40 := hok.nc
  obtain ⟨dl, hdl⟩ : ∃ dl, a.divs.length = dl := ⟨_, rfl⟩
  obtain ⟨cl, hcl⟩ : ∃ cl, a.cps.length = cl := ⟨_, rfl⟩
  rw [hcl] at h40
  rw [hdl, hcl] at hA ⊢
  have HMO := Lib.hid (fun W (hb : Below w.heap.size w W) u v x hx hxl c (hc : CtS c) (hU : SlI (fun b => b < W.heap.size) W u x.1) (hV : SlCt (fun b => b < W.heap.size) W v x.2) => more_any a hok (.slice Ad dl cd) (.slice Ac cl cc) hdr u v x hx hxl c hc W (fun b => b < W.heap.size) (hA.onB hF hb).all hU hV)
  have HML := Lib.hid (fun x c => (show (Cha.moreF a x c).length ≤ cl by rw [← hcl]; exact Cha.moreF_len a x c))
  obtain ⟨k1, k2⟩ := key
  obtain ⟨w1, hw1⟩ : ∃ w1 : World, (w.alloc (.cells #[.slice Ad dl cd, .slice Ac cl cc, .int .u64 a.drawn] 33)).alloc (.cells #[.int .i64 k1, .int .i64 k2] 36) = w1 := ⟨_, rfl⟩
  obtain ⟨bx, hbx⟩ : ∃ bx, w.heap.size = bx := ⟨_, rfl⟩
  obtain ⟨b1, hb1⟩ : ∃ b1, bx + 1 = b1 := ⟨_, rfl⟩
  have c0 : w1.cell? ⟨bx, 0, none⟩ = some (.slice Ad dl cd) := by rw [← hw1, ← hbx]; simp [go_sem]
  have c1 : w1.cell? ⟨bx, 1, none⟩ = some (.slice Ac cl cc) := by rw [← hw1, ← hbx]; simp [go_sem]
  have c2 : w1.cell? ⟨bx, 2, none⟩ = some (.int .u64 a.drawn) := by rw [← hw1, ← hbx]; simp [go_sem]
  have c3 : w1.cell? ⟨b1, 0, none⟩ = some (.int .i64 k1) := by rw [← hw1, ← hb1, ← hbx]; simp [go_sem]
  have c4 : w1.cell? ⟨b1, 1, none⟩ = some (.int .i64 k2) := by rw [← hw1, ← hb1, ← hbx]; simp [go_sem]
  have l1 : bx < w1.heap.size := by rw [← hw1, ← hbx]; simp; omega
  have B1 : Below w.heap.size w w1 := by rw [← hw1]; exact Ba (Ba (B0 w) _) _
  have HK := Lib.hid (fun W (hb : Below w1.heap.size w1 W) => (show W.cell? ⟨bx, 0, none⟩ = some (.slice Ad dl cd) ∧ W.cell? ⟨bx, 1, none⟩ = some (.slice Ac cl cc) ∧ W.cell? ⟨bx, 2, none⟩ = some (.int .u64 a.drawn) from
    ⟨(Bc hb l1).trans c0, (Bc hb l1).trans c1, (Bc hb l1).trans c2⟩))
  have HB1 := Lib.hid B1
  have HW1 := Lib.hid hw1
  have HBX := Lib.hid hbx
  have HE1 := Lib.hid hb1
  have HM0 := Lib.hid (HMO.out w1 B1 (.slice none 0 0) (.slice none 0 0) ([], []) rfl (by simp) (k1, k2) hk Sl.nil_ Sl.nil_)
  have HOK := Lib.hid hok
  obtain ⟨dr, hdr2⟩ : ∃ dr : Int, ((a.drawn : Nat) : Int) = dr := ⟨_, rfl⟩
  rw [hdr2] at HMO HM0 HK HW1 c2 ⊢
  have HMO2 := HMO
  clear hA hF B1 hw1 hbx hb1 l1 hdl hcl hdr hk hok hdr2 HMO
  have hfin : ∀ b : Bool, (Cha.queF a 2002 0 (Cha.begF a (k1, k2)) = none → b = false → (Cha.allF a (k1, k2)).isSome = b ∧ ∀ L, Cha.allF a (k1, k2) ≠ some L) := fun b h hb => by
    subst hb
    unfold Cha.allF Cha.begF at *
    rw [h]
    exact ⟨rfl, fun L h => by cases h⟩
  have HFIN := Lib.hid hfin
  clear hfin
  dsimp only
  go_enter Tryd.func54, Tryd.ntmps54
  go_upto_region 1 with fail
  rw [HW1.out, HBX.out, HE1.out]
  go_wp2_with (go_at_call 58; (with_reducible refine (HM0.out.mono ?_)); rintro e w2 ⟨v6, rfl, hO2, hb2⟩; have HO2 := Lib.hid hO2; have HB2 := Lib.hid hb2; clear hb2 hO2 c0 c1 c2 c3 c4)
  go_loopg [6, 7] 2002 (fun gg s6 s7 wr => ∃ (i f : Nat) (q : List Cha.Lk), f + i = 2002 ∧ i ≤ 2001 ∧ f ≤ gg ∧ q.length ≤ 2050 ∧ s7 = .int .i64 i ∧ Aside (OwnLk w1.heap.size wr s6 q) ∧ Aside (Cha.QI a (k1, k2) i q) ∧ Aside (Cha.queF a f i q = Cha.queF a 2002 0 (Cha.begF a (k1, k2))) ∧ Aside (Below w1.heap.size w1 wr))
  case atStart => exact ⟨0, 2002, Cha.begF a (k1, k2), rfl, by omega, by omega, Nat.le_trans (HML.out _ _) (by omega), rfl, HO2.out, Cha.QI.start a (k1, k2), rfl, HB2.out⟩
  case round =>
    obtain ⟨i, f, q, hf, hi1, hg, hql, rfl, HO, HQ, HE, HB⟩ := hrel
    replace HO := Lib.hid HO
    replace HQ := Lib.hid HQ
    replace HE := Lib.hid HE
    replace HB := Lib.hid HB
    clear HO2 HB2
    have hsl := HO.out.sl (F := fun b => b < wr.heap.size) (by omega) fun b _ h _ => h
    obtain ⟨Aq, cq, hv6, _⟩ := hsl
    subst hv6
    by_cases hlt : i < q.length
    · have hltI : (i : Int) < q.length := by omega
      have hgi : q[i]? = some q[i] := List.getElem?_eq_getElem hlt
      by_cases hbig : 2000 < q.length
      · have d1 : decide ((2000 : Int) < q.length) = true := decide_eq_true (by omega)
        have d2 : decide (2000 < q.length) = true := decide_eq_true hbig
        have HZ := Lib.hid (HFIN.out false (by
          rw [← HE.out]
          cases f with
          | zero => omega
          | succ f => unfold Cha.queF; rw [hgi]; simp only; rw [if_pos hbig]) rfl)
        clear hgi hbig
        go_wp2_with fail
        refine bodyPost_ret (v := .tuple #[.slice none 0 0, .bool false]) (by simp [results, Tryd.f54, go_sem]) rfl ?_
        exact ⟨_, by rw [HZ.out.1], fun L h => absurd h (HZ.out.2 L), Bt HB1.out HB.out⟩
      · have d1 : decide ((2000 : Int) < q.length) = false := decide_eq_false (by omega)
        have d2 : decide (2000 < q.length) = false := decide_eq_false hbig
        have hch := HQ.out.ch q[i] (List.getElem_mem hlt)
        obtain ⟨ad0, c0, u, Av, cv, hv6, hbk, hfl, hU, hV⟩ := HO.out.at_ (by omega) hlt
        injection hv6 with e1 _ e3
        subst e1 e3
        obtain ⟨g, rfl⟩ : ∃ g, f = g + 1 := ⟨f - 1, by omega⟩
        have HE2 : Hid (Cha.queF a g (i + 1) (q ++ Cha.extF a q[i]) = Cha.queF a 2002 0 (Cha.begF a (k1, k2))) := Lib.hid (by
          rw [← HE.out, Cha.queF, hgi]
          simp only
          rw [if_neg hbig]
          rfl)
        have HQ2 := Lib.hid (HQ.out.next hlt)
        have HEX : Hid ((Cha.extF a q[i]).length ≤ cl) := Lib.hid (HML.out _ _)
        have HXF : Hid (Cha.extF a q[i] = Cha.moreF a q[i] (Cha.lastF q[i].2)) := Lib.hid rfl
        have hq0 := hfl.f0 rfl
        have hq1 := hfl.f1 rfl
        have hlen := hch.len
        have hsh := hch.short HOK.out
        have hne2 := hch.ne2
        have hla := hch.inA HOK.out _ (Cha.lastF_mem hne2)
        obtain ⟨x, hx⟩ : ∃ x, q[i] = x := ⟨_, rfl⟩
        rw [hx] at hq1 hlen hsh hne2 hla hU hV HE2 HQ2 HEX HXF
        obtain ⟨n, hn⟩ : ∃ n, x.2.length = n := ⟨_, rfl⟩
        rw [hn] at hq1 hlen hsh hV
        have hn1 : 1 ≤ n := by
          have := List.length_pos_iff.2 hne2
          omega
        obtain ⟨ad, rfl, hfb, hlast⟩ : ∃ ad, Av = some ad ∧ IsC wr ad.block ∧ Flds wr (ad.add ((n - 1) * 2)) [.int .i64 (Cha.lastF x.2).1, .int .i64 (Cha.lastF x.2).2] := by
          obtain ⟨A', c', e, _, _, hat⟩ := SlCt.open hV
          injection e with e1 _ _
          subst e1
          obtain ⟨ad, hA, hF, hfl⟩ := hat (n - 1) (by omega)
          refine ⟨ad, hA, hF, ?_⟩
          rwa [Cha.lastF_get hn (by omega)] at hfl
        have hls0 := hlast.f0 rfl
        have hls1 := hlast.f1 rfl
        have hfb2 : (ad.add ((n - 1) * 2)).block < wr.heap.size := by rw [block_of_add]; exact hfb.lt
        obtain ⟨c0', c1', c2'⟩ := HK.out wr HB.out
        have hu : ∃ Au nu cu, u = .slice Au nu cu := by obtain ⟨Au, cu, h, _⟩ := id hU; exact ⟨Au, _, cu, h⟩
        obtain ⟨Au, nu, cu, rfl⟩ := hu
        have hbk2 : (ad0.add (i * 2)).block < wr.heap.size := by rw [block_of_add]; exact hbk
        obtain ⟨⟨l1, l2⟩, hl12⟩ : ∃ c, Cha.lastF x.2 = c := ⟨_, rfl⟩
        rw [hl12] at hls0 hls1 hla HXF
        have HLA := Lib.hid (inA_cts HOK.out hla)
        have HU := Lib.hid hU
        have HV := Lib.hid hV
        have HN := Lib.hid hn
        have HLN := Lib.hid hlen
        clear hgi hch hfl hfb hlast hne2 hla hU hV hl12 hlen hn hx
        obtain ⟨bl, hbl⟩ : ∃ bl, wr.heap.size = bl := ⟨_, rfl⟩
        obtain ⟨w8, hw8⟩ : ∃ w8 : World, wr.alloc (.cells #[.slice Au nu cu, .slice (some ad) n cv] 109) = w8 := ⟨_, rfl⟩
        have B8 : Below wr.heap.size wr w8 := by rw [← hw8]; exact Ba (B0 wr) _
        have K8 : Blk w8 bl 109 #[.slice Au nu cu, .slice (some ad) n cv] := by rw [← hw8, ← hbl]; exact Blk.new _ _ _
        have HB8 := Lib.hid (Bt HB.out B8)
        have HO8 := Lib.hid (OwnLk.below HO.out B8)
        have HS := Lib.hid (fun W (hb : Below w8.heap.size w8 W) => (show (W.cell? ⟨bx, 0, none⟩ = some (.slice Ad dl cd) ∧ W.cell? ⟨bx, 1, none⟩ = some (.slice Ac cl cc) ∧ W.cell? ⟨bx, 2, none⟩ = some (.int .u64 dr)) ∧ (W.cell? ⟨bl, 0, none⟩ = some (.slice Au nu cu) ∧ W.cell? ⟨bl, 1, none⟩ = some (.slice (some ad) n cv)) ∧ W.cell? (ad.add ((n - 1) * 2)) = some (.int .i64 l1) ∧ W.cell? ⟨(ad.add ((n - 1) * 2)).block, (ad.add ((n - 1) * 2)).off + 1, none⟩ = some (.int .i64 l2) from
          ⟨HK.out W (Bt HB8.out hb), ⟨(Bc hb K8.lt).trans (K8.cell 0), (Bc hb K8.lt).trans (K8.cell 1)⟩, ((Bt B8 hb).cell (p := ad.add ((n - 1) * 2)) hfb2).trans hls0, ((Bt B8 hb).cell (p := ⟨(ad.add ((n - 1) * 2)).block, (ad.add ((n - 1) * 2)).off + 1, none⟩) hfb2).trans hls1⟩))
        have HMO := Lib.hid (fun W (hb : Below w8.heap.size w8 W) => HMO2.out W (Bt HB1.out (Bt HB8.out hb)) (.slice Au nu cu) (.slice (some ad) n cv) x (by rw [HN.out]; exact HLN.out) (by rw [HLN.out]; omega) (l1, l2) HLA.out
          ((SlI.keep HU.out (Agree.below (Bt B8 hb) fun b h => IsC.lt h)).mono fun b h => Nat.lt_of_lt_of_le (IsC.lt h) (Bt B8 hb).size) ((SlCt.keep HV.out (Agree.below (Bt B8 hb) fun b h => IsC.lt h)).mono fun b h => Nat.lt_of_lt_of_le (IsC.lt h) (Bt B8 hb).size))
        clear HMO2
        go_upto_region 8 with fail
        try rw [hw8]
        try rw [hbl]
        clear hw8 hbl B8 K8 hq0 hq1 hls0 hls1 hfb2 c0' c1' c2' hbk hbk2
        have hsub : IntKind.i64.wrap ((n : Int) - 1) = ((n - 1 : Nat) : Int) := by
          rw [show ((n : Int) - 1) = ((n - 1 : Nat) : Int) by omega]
          simp [IntKind.wrap, IntKind.bits, IntKind.signed]
          omega
        have hlt1 : n - 1 < n := by omega
        have hlt2 : ((n - 1 : Nat) : Int) < n := by omega
        have hBB : ∀ (L : Nat → Bool) (i : Nat) (W W' : World), Below W.heap.size W W' → Below w8.heap.size w8 W → Below w8.heap.size w8 W' := fun _ _ _ _ hb h => Bt h hb
        obtain ⟨u6, hu6⟩ : ∃ u6, Value.slice (some ad0) q.length cq = u6 := ⟨_, rfl⟩
        obtain ⟨u, hu⟩ : ∃ u, Value.slice Au nu cu = u := ⟨_, rfl⟩
        refine region_blocks (by kernel_rfl) ?_
        rw [hu6]
        rw [hu] at HS HMO
        refine from_lawW 12 EA1 (fun _ W => Below w8.heap.size w8 W) (FA1 a w8.heap.size bl n cv cd cc dl cl dr Ad Ac ad u6 u l1 l2 x) VA1 (by kernel_rfl) rfl (FA1_V _ _ _ _ _ _ _ _ _ _ _ _ _ _ _ _ _ _) (by kernel_rfl) (by kernel_rfl) ((B0 w8).drew) ⟨?_, ?_, ?_, ?_, ?_, ?_, ?_, ?_, ?_, ?_, ?_, ?_, trivial⟩ ?_
        · refine OpFactW.value rfl (FA1_below _ _ _ _ _ _ _ _ _ _ _ _ _ _ _ _ _ _) hBB fun L a wx hl hf D hb => ?_
          have h0 : sl a 6 = u6 := hf 6 (by kernel_rfl)
          refine ⟨u6, wx, ?_, B0 _, fun s _ h => h 29 rfl⟩
          unfold sl at h0
          simp [go_sem, h0]
        · refine OpFactW.value rfl (FA1_below _ _ _ _ _ _ _ _ _ _ _ _ _ _ _ _ _ _) hBB fun L a wx hl hf D hb => ?_
          have h0 : sl a 2 = .pointer (some ⟨bx, 0, none⟩) := hf 2 (by kernel_rfl)
          have es := HS.out wx hb
          refine ⟨.agg #[.slice Ad dl cd, .slice Ac cl cc, .int .u64 dr], wx, ?_, B0 _, fun s _ h => h 30 rfl⟩
          unfold sl at h0
          simp at h0
          simp [go_sem, h0, es]
        · refine OpFactW.value rfl (FA1_below _ _ _ _ _ _ _ _ _ _ _ _ _ _ _ _ _ _) hBB fun L a wx hl hf D hb => ?_
          have h0 : sl a 8 = .pointer (some ⟨bl, 0, none⟩) := hf 8 (by kernel_rfl)
          have es := HS.out wx hb
          refine ⟨.agg #[u, .slice (some ad) n cv], wx, ?_, B0 _, fun s _ h => h 31 rfl⟩
          unfold sl at h0
          simp at h0
          simp [go_sem, h0, es]
        · refine OpFactW.value rfl (FA1_below _ _ _ _ _ _ _ _ _ _ _ _ _ _ _ _ _ _) hBB fun L a wx hl hf D hb => ?_
          have h0 : sl a 8 = .pointer (some ⟨bl, 0, none⟩) := hf 8 (by kernel_rfl)
          refine ⟨.pointer (some ⟨bl, 1, none⟩), wx, ?_, B0 _, fun s _ h => h 32 rfl⟩
          unfold sl at h0
          simp at h0
          simp [go_sem, h0]
        · refine OpFactW.value rfl (FA1_below _ _ _ _ _ _ _ _ _ _ _ _ _ _ _ _ _ _) hBB fun L a wx hl hf D hb => ?_
          have h0 : sl a 32 = .pointer (some ⟨bl, 1, none⟩) := D 3 (by kernel_rfl)
          have es := HS.out wx hb
          refine ⟨.slice (some ad) n cv, wx, ?_, B0 _, fun s _ h => h 33 rfl⟩
          unfold sl at h0
          simp at h0
          simp [go_sem, h0, es]
        · refine OpFactW.value rfl (FA1_below _ _ _ _ _ _ _ _ _ _ _ _ _ _ _ _ _ _) hBB fun L a wx hl hf D hb => ?_
          have h0 : sl a 8 = .pointer (some ⟨bl, 0, none⟩) := hf 8 (by kernel_rfl)
          refine ⟨.pointer (some ⟨bl, 1, none⟩), wx, ?_, B0 _, fun s _ h => h 34 rfl⟩
          unfold sl at h0
          simp at h0
          simp [go_sem, h0]
        · refine OpFactW.value rfl (FA1_below _ _ _ _ _ _ _ _ _ _ _ _ _ _ _ _ _ _) hBB fun L a wx hl hf D hb => ?_
          have h0 : sl a 34 = .pointer (some ⟨bl, 1, none⟩) := D 5 (by kernel_rfl)
          have es := HS.out wx hb
          refine ⟨.slice (some ad) n cv, wx, ?_, B0 _, fun s _ h => h 35 rfl⟩
          unfold sl at h0
          simp at h0
          simp [go_sem, h0, es]
        · refine OpFactW.value rfl (FA1_below _ _ _ _ _ _ _ _ _ _ _ _ _ _ _ _ _ _) hBB fun L a wx hl hf D hb => ?_
          have h1 : sl a 35 = .slice (some ad) n cv := D 6 (by kernel_rfl)
          refine ⟨.int .i64 n, wx, ?_, B0 _, fun s _ h => h 36 rfl⟩
          unfold sl at h1
          simp at h1
          simp [go_sem, h1]
        · refine OpFactW.value rfl (FA1_below _ _ _ _ _ _ _ _ _ _ _ _ _ _ _ _ _ _) hBB fun L a wx hl hf D hb => ?_
          have h1 : sl a 36 = .int .i64 n := D 7 (by kernel_rfl)
          refine ⟨.int .i64 ((n - 1 : Nat) : Int), wx, ?_, B0 _, fun s _ h => h 37 rfl⟩
          unfold sl at h1
          simp at h1
          simp [go_sem, h1, hsub]
        · refine OpFactW.value rfl (FA1_below _ _ _ _ _ _ _ _ _ _ _ _ _ _ _ _ _ _) hBB fun L a wx hl hf D hb => ?_
          have h1 : sl a 33 = .slice (some ad) n cv := D 4 (by kernel_rfl)
          have h2 : sl a 37 = .int .i64 ((n - 1 : Nat) : Int) := D 8 (by kernel_rfl)
          refine ⟨.pointer (some (ad.add ((n - 1) * 2))), wx, ?_, B0 _, fun s _ h => h 38 rfl⟩
          unfold sl at h1 h2
          simp at h1 h2
          simp [go_sem, h1, h2, hlt2]
        · refine OpFactW.value rfl (FA1_below _ _ _ _ _ _ _ _ _ _ _ _ _ _ _ _ _ _) hBB fun L a wx hl hf D hb => ?_
          have h0 : sl a 38 = .pointer (some (ad.add ((n - 1) * 2))) := D 9 (by kernel_rfl)
          have es := HS.out wx hb
          refine ⟨.agg #[.int .i64 l1, .int .i64 l2], wx, ?_, B0 _, fun s _ h => h 39 rfl⟩
          unfold sl at h0
          simp at h0
          simp [go_sem, h0, es]
        · refine OpFactW.call rfl (FA1_below _ _ _ _ _ _ _ _ _ _ _ _ _ _ _ _ _ _) hBB fun L a wx hl hf D hb => ?_
          have h1 : sl a 30 = .agg #[.slice Ad dl cd, .slice Ac cl cc, .int .u64 dr] := D 1 (by kernel_rfl)
          have h2 : sl a 31 = .agg #[u, .slice (some ad) n cv] := D 2 (by kernel_rfl)
          have h3 : sl a 39 = .agg #[.int .i64 l1, .int .i64 l2] := D 10 (by kernel_rfl)
          refine ⟨58, #[.agg #[.slice Ad dl cd, .slice Ac cl cc, .int .u64 dr], .agg #[u, .slice (some ad) n cv], .agg #[.int .i64 l1, .int .i64 l2]], ?_, (HMO.out wx hb).mono ?_⟩
          · unfold sl at h1 h2 h3
            simp at h1 h2 h3
            simp [go_sem, h1, h2, h3]
          · rintro e w' ⟨r, rfl, hO, hb3⟩
            exact ⟨r, rfl, hb3, fun s _ h => show OwnLk _ _ (s 40) _ from by rw [h 40 rfl]; exact OwnLk.more hO hb.size⟩
        · intro L y w9 hb9 hF9
          have h29 : y 29 = u6 := hF9 0 (by decide) rfl
          have hO9 : OwnLk w8.heap.size w9 (y 40) (Cha.moreF a x (l1, l2)) := hF9 11 (by decide) rfl
          rw [← HXF.out] at hO9
          have HO9 := Lib.hid hO9
          have HQ9 := Lib.hid (OwnLk.below HO8.out hb9)
          have HB9 := Lib.hid (Bt HB8.out hb9)
          have hbs : w1.heap.size ≤ w9.heap.size := HB9.out.size
          have hel := HEX.out
          rw [hu6] at HQ9
          clear hF9 hO9 hb9 HXF
          rw [aft12 (d0 := 29) (d1 := 30) (d2 := 31) (d3 := 32) (d4 := 33) (d5 := 34) (d6 := 35) (d7 := 36) (d8 := 37) (d9 := 38) (d10 := 39) (d11 := 40) (by kernel_rfl) rfl]
          rw [h29]
          obtain ⟨y40, hy40⟩ : ∃ y40, y 40 = y40 := ⟨_, rfl⟩
          rw [hy40] at HO9 ⊢
          simp only [List.set_cons_succ, List.set_cons_zero]
          refine from_list 14 (by kernel_rfl) (by simp only [List.take_succ_cons, List.take_zero, List.drop_succ_cons, List.drop_zero]; exact rfl) ?_
          (intro Q' hQ' hX; clear hX)
          go_wp2_with (at_builtin; refine wpList_append_lk rfl _ _ rfl rfl rfl HQ9.out HO9.out (by omega) hbs ?_; intro A7 c7 w7 hO7 hg7; have HO7 := Lib.hid hO7; have HB7 := Lib.hid (HB9.out.grown hg7 hbs fun b e => (HQ9.out.lt b e).1); clear hO7 hg7)
          refine from_end rfl ?_
          go_wp2_with fail
          go_roundg g
          case measure => omega
          case rel => exact ⟨i + 1, g, q ++ Cha.extF a x, by omega, by omega, Nat.le_refl _, by rw [List.length_append]; omega, by go_num, (by have h7 := HO7.out; rw [List.length_append] at h7; exact h7), HQ2.out, HE2.out, HB7.out⟩
    · have hge : decide ((i : Int) < q.length) = false := decide_eq_false (by omega)
      have hgn : ¬ ((i : Int) < q.length) := by omega
      obtain ⟨g, rfl⟩ : ∃ g, f = g + 1 := ⟨f - 1, by omega⟩
      have hE : Cha.queF a 2002 0 (Cha.begF a (k1, k2)) = some q := by
        rw [← HE.out, Cha.queF, List.getElem?_eq_none (by omega)]
      have hAL : Cha.allF a (k1, k2) = if q.length ≤ 2000 then some (q.map fun x => (x.1, Cha.lastF x.2)) else none := by
        unfold Cha.allF
        unfold Cha.begF at hE
        rw [hE]
      have HAL := Lib.hid hAL
      have HCH := Lib.hid HQ.out.ch
      have HB3 := HB
      have HO3 := HO
      clear hE hAL HE HQ HMO2 HML HM0 HFIN HB HO hf hi1 hg
      obtain ⟨u6, hu6⟩ : ∃ u6, Value.slice Aq q.length cq = u6 := ⟨_, rfl⟩
      have HU6 := Lib.hid hu6
      rw [hu6] at HO3
      clear hu6
      go_wp2_with fail
      go_loopg [9, 44] q.length (fun gg s9 s44 wx => ∃ (k : Nat), k ≤ q.length ∧ q.length - k ≤ gg ∧ s44 = .int .i64 k ∧ Aside (OwnCh w1.heap.size wx s9 ((q.take k).map fun x => (x.1, Cha.lastF x.2))) ∧ Aside (OwnLk w1.heap.size wx u6 q) ∧ Aside (Below w1.heap.size w1 wx))
      case atStart => exact ⟨0, by omega, by omega, rfl, OwnL.nil, HO3.out, HB3.out⟩
      case round =>
        obtain ⟨k, hk, hg, rfl, HC, HO, HB⟩ := hrel
        replace HC := Lib.hid HC
        replace HO := Lib.hid HO
        replace HB := Lib.hid HB
        clear HO3 HB3
        have hsl := HC.out.sl (F := fun b => b < wr.heap.size) (by simp; omega) fun b _ h _ => h
        obtain ⟨A9, c9, hv9, _⟩ := hsl
        have hl9 : ((q.take k).map fun x : Cha.Lk => (x.1, Cha.lastF x.2)).length = k := by simp; omega
        rw [hl9] at hv9
        subst hv9
        by_cases hlt : k < q.length
        · have hltI : (k : Int) < q.length := by omega
          have hch := HCH.out q[k] (List.getElem_mem hlt)
          have hO6 := HO.out
          rw [← HU6.out] at hO6
          obtain ⟨ad0, c0, u, Av, cv, hv6, hbk, hfl, hU, hV⟩ := OwnLk.at_ hO6 (by omega) hlt
          injection hv6 with e1 _ e3
          subst e1 e3
          have hq0 := hfl.f0 rfl
          have hq1 := hfl.f1 rfl
          have hne2 := hch.ne2
          have hsh := hch.short HOK.out
          have htk : ((q.take (k + 1)).map fun x : Cha.Lk => (x.1, Cha.lastF x.2)) = ((q.take k).map fun x : Cha.Lk => (x.1, Cha.lastF x.2)) ++ [(q[k].1, Cha.lastF q[k].2)] := by
            rw [List.take_add_one, List.getElem?_eq_getElem hlt, Option.toList_some, List.map_append]; rfl
          obtain ⟨x, hx⟩ : ∃ x, q[k] = x := ⟨_, rfl⟩
          rw [hx] at hq1 hne2 hsh hU hV htk
          have HTK := Lib.hid htk
          obtain ⟨n, hn⟩ : ∃ n, x.2.length = n := ⟨_, rfl⟩
          rw [hn] at hq1 hV hsh
          have hn1 : 1 ≤ n := by
            have := List.length_pos_iff.2 hne2
            omega
          obtain ⟨ad, rfl, hfb, hlast⟩ : ∃ ad, Av = some ad ∧ IsC wr ad.block ∧ Flds wr (ad.add ((n - 1) * 2)) [.int .i64 (Cha.lastF x.2).1, .int .i64 (Cha.lastF x.2).2] := by
            obtain ⟨A', c', e, _, _, hat⟩ := SlCt.open hV
            injection e with e1 _ _
            subst e1
            obtain ⟨ad, hA, hF, hfl⟩ := hat (n - 1) (by omega)
            refine ⟨ad, hA, hF, ?_⟩
            rwa [Cha.lastF_get hn (by omega)] at hfl
          have hls0 := hlast.f0 rfl
          have hls1 := hlast.f1 rfl
          have hfb2 : (ad.add ((n - 1) * 2)).block < wr.heap.size := by rw [block_of_add]; exact hfb.lt
          have hu : ∃ Au nu cu, u = .slice Au nu cu := by obtain ⟨Au, cu, h, _⟩ := id hU; exact ⟨Au, _, cu, h⟩
          obtain ⟨Au, nu, cu, rfl⟩ := hu
          obtain ⟨⟨l1, l2⟩, hl12⟩ : ∃ c, Cha.lastF x.2 = c := ⟨_, rfl⟩
          rw [hl12] at hls0 hls1
          have HL12 := Lib.hid hl12
          have HU := Lib.hid hU
          have hbk2 : (ad0.add (k * 2)).block < wr.heap.size := by rw [block_of_add]; exact hbk
          obtain ⟨bl, hbl⟩ : ∃ bl, wr.heap.size = bl := ⟨_, rfl⟩
          obtain ⟨w8, hw8⟩ : ∃ w8 : World, wr.alloc (.cells #[.slice Au nu cu, .slice (some ad) n cv] 109) = w8 := ⟨_, rfl⟩
          have B8 : Below wr.heap.size wr w8 := by rw [← hw8]; exact Ba (B0 wr) _
          have K8 : Blk w8 bl 109 #[.slice Au nu cu, .slice (some ad) n cv] := by rw [← hw8, ← hbl]; exact Blk.new _ _ _
          have HB8 := Lib.hid (Bt HB.out B8)
          have HC8 := Lib.hid (OwnCh.below HC.out B8)
          have HO8 := Lib.hid (OwnLk.below HO.out B8)
          have HB08 := Lib.hid B8
          have HS := Lib.hid (fun W (hb : Below w8.heap.size w8 W) => (show (W.cell? ⟨bl, 0, none⟩ = some (.slice Au nu cu) ∧ W.cell? ⟨bl, 1, none⟩ = some (.slice (some ad) n cv)) ∧ W.cell? (ad.add ((n - 1) * 2)) = some (.int .i64 l1) ∧ W.cell? ⟨(ad.add ((n - 1) * 2)).block, (ad.add ((n - 1) * 2)).off + 1, none⟩ = some (.int .i64 l2) from
            ⟨⟨(Bc hb K8.lt).trans (K8.cell 0), (Bc hb K8.lt).trans (K8.cell 1)⟩, ((Bt B8 hb).cell (p := ad.add ((n - 1) * 2)) hfb2).trans hls0, ((Bt B8 hb).cell (p := ⟨(ad.add ((n - 1) * 2)).block, (ad.add ((n - 1) * 2)).off + 1, none⟩) hfb2).trans hls1⟩))
          clear hch hfl hfb hlast hne2 hU hV hl12 hn hx hbk htk hO6 B8 K8
          go_upto_region 13 with fail
          try rw [hw8]
          try rw [hbl]
          clear hw8 hbl hq0 hq1 hls0 hls1 hfb2 hbk2
          have hsub : IntKind.i64.wrap ((n : Int) - 1) = ((n - 1 : Nat) : Int) := by
            rw [show ((n : Int) - 1) = ((n - 1 : Nat) : Int) by omega]
            simp [IntKind.wrap, IntKind.bits, IntKind.signed]
            omega
          have hlt1 : n - 1 < n := by omega
          have hlt2 : ((n - 1 : Nat) : Int) < n := by omega
          have hBB : ∀ (L : Nat → Bool) (i : Nat) (W W' : World), Below W.heap.size W W' → Below w8.heap.size w8 W → Below w8.heap.size w8 W' := fun _ _ _ _ hb h => Bt h hb
          obtain ⟨u9, hu9⟩ : ∃ u9, Value.slice A9 k c9 = u9 := ⟨_, rfl⟩
          refine region_blocks (by kernel_rfl) ?_
          rw [hu9]
          refine from_lawW 13 EA2 (fun _ W => Below w8.heap.size w8 W) (FA2 bl n cv ad u9 (.slice Au nu cu) l1 l2) VA2 (by kernel_rfl) rfl (FA2_V _ _ _ _ _ _ _ _) (by kernel_rfl) (by kernel_rfl) ((B0 w8).drew) ⟨?_, ?_, ?_, ?_, ?_, ?_, ?_, ?_, ?_, ?_, ?_, ?_, ?_, trivial⟩ ?_
          · refine OpFactW.value rfl (FA2_below _ _ _ _ _ _ _ _) hBB fun L a wx hl hf D hb => ?_
            have h0 : sl a 9 = u9 := hf 9 (by kernel_rfl)
            refine ⟨u9, wx, ?_, B0 _, fun s _ h => h 48 rfl⟩
            unfold sl at h0
            simp [go_sem, h0]
          · refine OpFactW.value rfl (FA2_below _ _ _ _ _ _ _ _) hBB fun L a wx hl hf D hb => ?_
            have h0 : sl a 11 = .pointer (some ⟨bl, 0, none⟩) := hf 11 (by kernel_rfl)
            refine ⟨.pointer (some ⟨bl, 0, none⟩), wx, ?_, B0 _, fun s _ h => h 49 rfl⟩
            unfold sl at h0
            simp at h0
            simp [go_sem, h0]
          · refine OpFactW.value rfl (FA2_below _ _ _ _ _ _ _ _) hBB fun L a wx hl hf D hb => ?_
            have h0 : sl a 49 = .pointer (some ⟨bl, 0, none⟩) := D 1 (by kernel_rfl)
            have es := HS.out wx hb
            refine ⟨(.slice Au nu cu), wx, ?_, B0 _, fun s _ h => h 50 rfl⟩
            unfold sl at h0
            simp at h0
            simp [go_sem, h0, es]
          · refine OpFactW.value rfl (FA2_below _ _ _ _ _ _ _ _) hBB fun L a wx hl hf D hb => ?_
            have h0 : sl a 11 = .pointer (some ⟨bl, 0, none⟩) := hf 11 (by kernel_rfl)
            refine ⟨.pointer (some ⟨bl, 1, none⟩), wx, ?_, B0 _, fun s _ h => h 51 rfl⟩
            unfold sl at h0
            simp at h0
            simp [go_sem, h0]
          · refine OpFactW.value rfl (FA2_below _ _ _ _ _ _ _ _) hBB fun L a wx hl hf D hb => ?_
            have h0 : sl a 51 = .pointer (some ⟨bl, 1, none⟩) := D 3 (by kernel_rfl)
            have es := HS.out wx hb
            refine ⟨.slice (some ad) n cv, wx, ?_, B0 _, fun s _ h => h 52 rfl⟩
            unfold sl at h0
            simp at h0
            simp [go_sem, h0, es]
          · refine OpFactW.value rfl (FA2_below _ _ _ _ _ _ _ _) hBB fun L a wx hl hf D hb => ?_
            have h0 : sl a 11 = .pointer (some ⟨bl, 0, none⟩) := hf 11 (by kernel_rfl)
            refine ⟨.pointer (some ⟨bl, 1, none⟩), wx, ?_, B0 _, fun s _ h => h 53 rfl⟩
            unfold sl at h0
            simp at h0
            simp [go_sem, h0]
          · refine OpFactW.value rfl (FA2_below _ _ _ _ _ _ _ _) hBB fun L a wx hl hf D hb => ?_
            have h0 : sl a 53 = .pointer (some ⟨bl, 1, none⟩) := D 5 (by kernel_rfl)
            have es := HS.out wx hb
            refine ⟨.slice (some ad) n cv, wx, ?_, B0 _, fun s _ h => h 54 rfl⟩
            unfold sl at h0
            simp at h0
            simp [go_sem, h0, es]
          · refine OpFactW.value rfl (FA2_below _ _ _ _ _ _ _ _) hBB fun L a wx hl hf D hb => ?_
            have h1 : sl a 54 = .slice (some ad) n cv := D 6 (by kernel_rfl)
            refine ⟨.int .i64 n, wx, ?_, B0 _, fun s _ h => h 55 rfl⟩
            unfold sl at h1
            simp at h1
            simp [go_sem, h1]
          · refine OpFactW.value rfl (FA2_below _ _ _ _ _ _ _ _) hBB fun L a wx hl hf D hb => ?_
            have h1 : sl a 55 = .int .i64 n := D 7 (by kernel_rfl)
            refine ⟨.int .i64 ((n - 1 : Nat) : Int), wx, ?_, B0 _, fun s _ h => h 56 rfl⟩
            unfold sl at h1
            simp at h1
            simp [go_sem, h1, hsub]
          · refine OpFactW.value rfl (FA2_below _ _ _ _ _ _ _ _) hBB fun L a wx hl hf D hb => ?_
            have h1 : sl a 52 = .slice (some ad) n cv := D 4 (by kernel_rfl)
            have h2 : sl a 56 = .int .i64 ((n - 1 : Nat) : Int) := D 8 (by kernel_rfl)
            refine ⟨.pointer (some (ad.add ((n - 1) * 2))), wx, ?_, B0 _, fun s _ h => h 57 rfl⟩
            unfold sl at h1 h2
            simp at h1 h2
            simp [go_sem, h1, h2, hlt2]
          · refine OpFactW.value rfl (FA2_below _ _ _ _ _ _ _ _) hBB fun L a wx hl hf D hb => ?_
            have h0 : sl a 57 = .pointer (some (ad.add ((n - 1) * 2))) := D 9 (by kernel_rfl)
            have es := HS.out wx hb
            refine ⟨.agg #[.int .i64 l1, .int .i64 l2], wx, ?_, B0 _, fun s _ h => h 58 rfl⟩
            unfold sl at h0
            simp at h0
            simp [go_sem, h0, es]
          · refine OpFactW.value rfl (FA2_below _ _ _ _ _ _ _ _) hBB fun L a wx hl hf D hb => ?_
            have h1 : sl a 50 = (.slice Au nu cu) := D 2 (by kernel_rfl)
            have h2 : sl a 58 = .agg #[.int .i64 l1, .int .i64 l2] := D 10 (by kernel_rfl)
            refine ⟨.agg #[(.slice Au nu cu), .int .i64 l1, .int .i64 l2], wx, ?_, B0 _, fun s _ h => h 59 rfl⟩
            unfold sl at h1 h2
            simp at h1 h2
            simp [go_sem, h1, h2]
          · refine OpFactW.value rfl (FA2_below _ _ _ _ _ _ _ _) hBB fun L a wx hl hf D hb => ?_
            have h1 : sl a 59 = .agg #[(.slice Au nu cu), .int .i64 l1, .int .i64 l2] := D 11 (by kernel_rfl)
            refine ⟨.slice (some ⟨wx.heap.size, 0, none⟩) 1 1, wx.alloc (.cells #[(.slice Au nu cu), .int .i64 l1, .int .i64 l2] 56), ?_, Ba (B0 _) _, fun s _ h => ⟨_, h 60 rfl, by simp, Flds.new wx _ _⟩⟩
            unfold sl at h1
            simp at h1
            simp [go_sem, h1]
          · intro L y w9 hb9 hF9
            have h48 : y 48 = u9 := hF9 0 (by decide) rfl
            obtain ⟨g9, h60, _, hfl9⟩ : ∃ g, y 60 = .slice (some ⟨g, 0, none⟩) 1 1 ∧ g < w9.heap.size ∧ Flds w9 ⟨g, 0, none⟩ [.slice Au nu cu, .int .i64 l1, .int .i64 l2] := hF9 12 (by decide) rfl
            have HC9 := OwnCh.below HC8.out hb9
            have HO9 := Lib.hid (OwnLk.below HO8.out hb9)
            have HB9 := Lib.hid (Bt HB8.out hb9)
            have HU9 : Hid (SlI (IsC w9) w9 (.slice Au nu cu) x.1) := Lib.hid (by
              exact (SlI.keep HU.out (Agree.below (Bt HB08.out hb9) fun b h => IsC.lt h)).mono fun b h => IsC.below h (Bt HB08.out hb9))
            have hbs : w1.heap.size ≤ w9.heap.size := HB9.out.size
            rw [hu9] at HC9
            obtain ⟨ds, p1, p2, p3⟩ := HC9
            rw [hl9] at p1 p3
            have HP1 := Lib.hid p1
            have HP2 := Lib.hid p2
            have HP3 := Lib.hid p3
            have HF9 := Lib.hid hfl9
            have HL9 := Lib.hid hl9
            clear hF9 hb9 p1 p2 p3 hfl9 hl9
            rw [aft13 (d0 := 48) (d1 := 49) (d2 := 50) (d3 := 51) (d4 := 52) (d5 := 53) (d6 := 54) (d7 := 55) (d8 := 56) (d9 := 57) (d10 := 58) (d11 := 59) (d12 := 60) (by kernel_rfl) rfl]
            rw [h48, h60]
            simp only [List.set_cons_succ, List.set_cons_zero]
            refine from_list 15 (by kernel_rfl) (by simp only [List.take_succ_cons, List.take_zero, List.drop_succ_cons, List.drop_zero]; exact rfl) ?_
            (intro Q' hQ' hX; clear hX)
            go_wp2_with (at_builtin; refine wpList_appS elemCh (by omega) rfl _ _ rfl w1.heap.size u9 k _ rfl HP3.out ⟨g9, 0, none⟩ 1 [.slice Au nu cu, .int .i64 l1, .int .i64 l2] rfl rfl HF9.out (by simp [Value.oneCell']) (by omega) (by omega) hbs ?_; intro g cap w7 hown7 hg7 hgg; have HO7 := Lib.hid hown7; have HG7 := Lib.hid hg7; clear hown7 hg7 hgg)
            refine from_end rfl ?_
            go_wp2_with fail
            go_roundg (q.length - (k + 1))
            case measure => omega
            case rel =>
              have hrow := isC_own HP3.out (show 56 ≠ 3 by decide) (by decide)
              refine ⟨k + 1, by omega, by omega, by go_num, ?_, ?_, HB9.out.grown HG7.out hbs fun b e => (HP3.out.lt b e).1⟩
              · rw [HTK.out, HL12.out]
                refine OwnL.snoc (by rw [HL9.out]; exact HP1.out) HP2.out rfl ?_ (fun _ _ h => h.grown HG7.out hrow) (by rw [HL9.out]; exact HO7.out)
                exact ChC.grown (w := w9) ⟨_, rfl, HU9.out⟩ HG7.out hrow
              · obtain ⟨_, _, _, k3⟩ := id HO9.out
                exact HO9.out.grown HG7.out hrow (own_own_ne k3 HP3.out (by decide))
        · obtain rfl : k = q.length := by omega
          have hC := HC.out
          rw [List.take_length] at hC
          have HC2 := Lib.hid hC
          have hAL := HAL.out
          by_cases hle : q.length ≤ 2000
          · rw [if_pos hle] at hAL
            have HAL := Lib.hid hAL
            have d1 : decide ((q.length : Int) ≤ 2000) = true := decide_eq_true (by omega)
            have d2 : decide (q.length ≤ 2000) = true := decide_eq_true (by omega)
            have d3 : (q.length : Int) ≤ 2000 := by omega
            clear hAL hC
            go_wp2_with fail
            refine bodyPost_ret (v := .tuple #[.slice A9 q.length c9, .bool true]) (by simp [results, Tryd.f54, go_sem]) rfl ?_
            refine ⟨_, by rw [HAL.out]; rfl, fun L h => ?_, Bt HB1.out HB.out⟩
            rw [HAL.out] at h
            injection h with h
            subst h
            exact OwnCh.more HC2.out HB1.out.size
          · rw [if_neg hle] at hAL
            have HAL := Lib.hid hAL
            have d1 : decide ((q.length : Int) ≤ 2000) = false := decide_eq_false (by omega)
            have d2 : decide (q.length ≤ 2000) = false := decide_eq_false (by omega)
            have d3 : ¬ (q.length : Int) ≤ 2000 := by omega
            clear hAL hC
            go_wp2_with fail
            refine bodyPost_ret (v := .tuple #[.slice A9 q.length c9, .bool false]) (by simp [results, Tryd.f54, go_sem]) rfl ?_
            exact ⟨_, by rw [HAL.out]; rfl, fun L h => (by rw [HAL.out] at h; cases h), Bt HB1.out HB.out⟩
end Go.Proofs.YtahlfndlkfoikaaDoor
