/- Walks over coupler's statements: Make. -/
import Derived.Test.YtahlfndlkfoikaaDoorKv
import Derived.Laws.IdiomStrings
import Derived.Deep.AppendLies
import Derived.Deep.RegionLaw
import Derived.Deep.CutBlock
namespace Go.Proofs.YtahlfndlkfoikaaDoor
open Go Go.RowKit Go.Shelf
def LkC (_ : World) (cs : List Value) (x : Cou.Lk) : Prop := cs = [.int .u8 x.from_, .int .u8 x.to_, .int .i8 x.shift, .bool x.thru]
abbrev SlLk (F : Nat → Prop) (w : World) (v : Value) (l : List Cou.Lk) : Prop := Sl F 4 LkC w v l
/-- A plan that fits. -/
structure PlOk (p : Cou.Pl) : Prop where
  len : p.dv.length = 3
  dv : ∀ d ∈ p.dv, d.1 < 256 ∧ d.2 < 256
  more : p.more < 256
  drawn : p.drawn < 256
  links : ∀ x ∈ p.links, x.from_ < 256 ∧ x.to_ < 256 ∧ -128 ≤ x.shift ∧ x.shift ≤ 127
def plCells (p : Cou.Pl) (vl : Value) : Array Value := #[.int .u8 (p.dv.getD 0 (0, 0)).1, .int .u8 (p.dv.getD 0 (0, 0)).2, .int .u8 (p.dv.getD 1 (0, 0)).1, .int .u8 (p.dv.getD 1 (0, 0)).2, .int .u8 (p.dv.getD 2 (0, 0)).1, .int .u8 (p.dv.getD 2 (0, 0)).2, .int .u8 p.more, vl, .int .u8 p.drawn]
theorem conv_nm (j : Nat) (hj : j < 4) (W : World) (g : Nat) (h0 : W.cell? ⟨g, 0, none⟩ = some (.int .u8 99)) (h1 : W.cell? ⟨g, 1, none⟩ = some (.int .u8 (48 + (j : Int)))) :
    (convert 77 9 (.slice (some ⟨g, 0, none⟩) 2 2)).run Tryd.prog W = .ok (.string (Cou.nm j)) W := by
  have hu : ((48 + j).toUInt8.toNat : Int) = 48 + (j : Int) := by
    have : (48 + j).toUInt8.toNat = 48 + j := by rw [Nat.toUInt8, UInt8.toNat_ofNat']; omega
    rw [this]; omega
  have := run_convert_bytes_back (P := Tryd.prog) W 77 9 5 ⟨g, 0, none⟩ 2 [99, (48 + j).toUInt8] Tryd.underlying77 Tryd.underlying5 Tryd.underlying9 fun k hk => by
    have hk2 : k = 0 ∨ k = 1 := by simp at hk; omega
    rcases hk2 with rfl | rfl
    · simpa [Addr.add] using h0
    · simp only [List.getElem_cons_succ, List.getElem_cons_zero]
      rw [hu]
      simpa [Addr.add] using h1
  exact this
theorem infoCp : (Tryd.prog.info? 46).map (fun i => (i.zero, i.size, i.bytes)) = some (some (.agg #[.string ByteArray.empty, .int .i64 0, .int .i64 0, .int .i64 0, .bool false]), 5, 48) := by kernel_rfl
theorem elemCp : ElemN Tryd.prog 30 46 5 48 := ⟨Tryd.underlying30, by
  obtain ⟨i, hi, hz, hs, hb⟩ := info_parts infoCp
  exact ⟨i, _, hi, hz, hs, hb, rfl⟩⟩
theorem infoCm : (Tryd.prog.info? 62).map (fun i => (i.zero, i.size, i.bytes)) = some (some (.agg #[.int .i64 0, .int .i64 0]), 2, 16) := by kernel_rfl
theorem elemCm : ElemN Tryd.prog 29 62 2 16 := ⟨Tryd.underlying29, by
  obtain ⟨i, hi, hz, hs, hb⟩ := info_parts infoCm
  exact ⟨i, _, hi, hz, hs, hb, rfl⟩⟩
theorem run_bs5 (s : ByteArray) (z1 z2 z3 : Int) (b : Bool) (W : World) : (Instr.buildSlice 30 1 #[(0, .agg #[.string s, .int .i64 z1, .int .i64 z2, .int .i64 z3, .bool b])]).run Tryd.prog W = .ok (.slice (some ⟨W.heap.size, 0, none⟩) 1 1) (W.alloc (.cells #[.string s, .int .i64 z1, .int .i64 z2, .int .i64 z3, .bool b] 46)) := by kernel_rfl
theorem wpList_bs5 {ops : Array Oper} {rest : List Oper} {o : Oper} {a : Act} {Q : Exit → Act → World → Prop} {w : World} (hgd : o.guard = none) (x : Operand) (ho : o.op = .buildSlice 30 1 #[(0, x)])
    (s : ByteArray) (z1 z2 z3 : Int) (b : Bool) (hx : a.eval x = .agg #[.string s, .int .i64 z1, .int .i64 z2, .int .i64 z3, .bool b])
    (h : wpList Tryd.prog ops Q rest (a.put o.dst (.slice (some ⟨w.heap.size, 0, none⟩) 1 1)) (w.alloc (.cells #[.string s, .int .i64 z1, .int .i64 z2, .int .i64 z3, .bool b] 46))) : wpList Tryd.prog ops Q (o :: rest) a w :=
  wpList_plain hgd fun K hK => by
    unfold Oper.wp execOp
    have e : #[((0 : Nat), x)].map (fun p => (p.1, a.eval p.2)) = #[(0, .agg #[.string s, .int .i64 z1, .int .i64 z2, .int .i64 z3, .bool b])] := by simp [hx]
    simp only [ho, e, Sem.run_bind, Sem.run_pure, Result.andThen_ok, run_bs5]
    exact hK _ _ h
/-- A coupler that has been made. -/
def CpMade (w0 : World) (c : Cou.Cpl) (s9 : Value) (wx : World) : Prop := ∃ cb, s9 = .pointer (some ⟨cb, 0, none⟩) ∧ w0.heap.size ≤ cb ∧ Blk wx cb 46 #[.string c.name, .int .i64 c.from_, .int .i64 c.to, .int .i64 c.shift, .bool c.thru] ∧ Below w0.heap.size w0 wx
theorem OwnL.more {α : Type} {base base' : Nat} {e : TypeId} {k : Nat} {R : World → List Value → α → Prop} {w : World} {v : Value} {l : List α} (h : OwnL base e k R w v l) (hb : base' ≤ base) : OwnL base' e k R w v l := by
  obtain ⟨cs, h1, h2, h3⟩ := h
  exact ⟨cs, h1, h2, own_more h3 hb⟩
set_option maxRecDepth 100000 in
set_option maxHeartbeats 40000000 in
theorem make_own (p : Cou.Pl) (hp : PlOk p) (vl : Value) (w : World) (F : Nat → Prop) (hF : ∀ b, F b → b < w.heap.size) (hl : SlLk F w vl p.links) :
    Calls Tryd.prog 12 #[.agg (plCells p vl)] w fun e w' => ∃ vd vc, e = .returned (.agg #[vd, vc, .int .u64 (Cou.makeF p).drawn]) ∧ AcAt (fun b => w.heap.size ≤ b ∧ b < w'.heap.size) w' vd vc (Cou.makeF p) ∧ OwnL w.heap.size 62 2 CmpC w' vd (Cou.makeF p).divs ∧ OwnL w.heap.size 46 5 CplC w' vc (Cou.makeF p).cps ∧ Below w.heap.size w w' := by
  obtain ⟨Al, cl, rfl, hl1, hl2, hlat⟩ := id hl
  unfold plCells
  have hm : p.more < 256 := hp.more
  have hd : p.drawn < 256 := hp.drawn
  obtain ⟨dv, more, links, dr⟩ := p
  obtain ⟨e0, e1, e2, rfl⟩ : ∃ e0 e1 e2, dv = [e0, e1, e2] := by
    match dv, hp.len with
    | [e0, e1, e2], _ => exact ⟨e0, e1, e2, rfl⟩
  have h0 := hp.dv e0 (by simp)
  have h1 := hp.dv e1 (by simp)
  have h2 := hp.dv e2 (by simp)
  have hlk := hp.links
  dsimp only at hl hl1 hl2 hlat hm hd hlk ⊢
  simp only [List.getD_cons_zero, List.getD_cons_succ]
  obtain ⟨d0, d1⟩ := e0
  obtain ⟨d2, d3⟩ := e1
  obtain ⟨d4, d5⟩ := e2
  dsimp only at h0 h1 h2 ⊢
  obtain ⟨pb, hpb⟩ : ∃ pb, w.heap.size = pb := ⟨_, rfl⟩
  obtain ⟨w1, hw1⟩ : ∃ w1 : World, ((w.alloc (.cells #[.int .u8 d0, .int .u8 d1, .int .u8 d2, .int .u8 d3, .int .u8 d4, .int .u8 d5, .int .u8 more, .slice Al links.length cl, .int .u8 dr] 26)).alloc (.cells #[.slice none 0 0, .slice none 0 0, .int .u64 0] 33)).alloc (.cells #[.slice none 0 0, .slice none 0 0, .int .u64 0] 33) = w1 := ⟨_, rfl⟩
  have PB : Blk w1 pb 26 #[.int .u8 d0, .int .u8 d1, .int .u8 d2, .int .u8 d3, .int .u8 d4, .int .u8 d5, .int .u8 more, .slice Al links.length cl, .int .u8 dr] := by
    rw [← hw1, ← hpb]; exact ((Blk.new w _ _).alloc _).alloc _
  have RB : Blk w1 (pb + 1) 33 #[.slice none 0 0, .slice none 0 0, .int .u64 0] := by
    have := (Blk.new (w.alloc (.cells #[.int .u8 d0, .int .u8 d1, .int .u8 d2, .int .u8 d3, .int .u8 d4, .int .u8 d5, .int .u8 more, .slice Al links.length cl, .int .u8 dr] 26)) 33 #[.slice none 0 0, .slice none 0 0, .int .u64 0]).alloc (.cells #[.slice none 0 0, .slice none 0 0, .int .u64 0] 33)
    rw [hw1] at this
    simpa [hpb] using this
  have AB : Blk w1 (pb + 1 + 1) 33 #[.slice none 0 0, .slice none 0 0, .int .u64 0] := by
    have := Blk.new ((w.alloc (.cells #[.int .u8 d0, .int .u8 d1, .int .u8 d2, .int .u8 d3, .int .u8 d4, .int .u8 d5, .int .u8 more, .slice Al links.length cl, .int .u8 dr] 26)).alloc (.cells #[.slice none 0 0, .slice none 0 0, .int .u64 0] 33)) 33 #[.slice none 0 0, .slice none 0 0, .int .u64 0]
    rw [hw1] at this
    simpa [hpb] using this
  have B1 : Below w.heap.size w w1 := by rw [← hw1]; exact Ba (Ba (Ba (B0 w) _) _) _
  have s1 : w1.heap.size = pb + 3 := by rw [← hw1, ← hpb]; simp
  have HLAT := Lib.hid hlat
  have HW1 := Lib.hid hw1
  have HPP := Lib.hid hpb
  clear hl hlat hw1 hpb
  go_enter Tryd.func12, Tryd.ntmps12
  go_upto_block 0 with fail
  have hw1 := HW1.out
  have hpb := HPP.out
  rw [hw1, hpb]
  obtain ⟨n, hn⟩ : ∃ n : Nat, 1 + more % 3 = n := ⟨_, rfl⟩
  have hnI : (1 : Int) + (more : Int) % 3 = n := by omega
  have hn1 : 1 ≤ n ∧ n ≤ 3 := by omega
  rw [hnI]
  have HN := Lib.hid hn
  have HPB := Lib.hid PB
  have HRB := Lib.hid RB
  have HAB := Lib.hid AB
  have HB1 := Lib.hid B1
  clear hn hnI PB RB AB B1 hw1 HW1 hpb
  have hdl : ∀ i, i < 3 → ∃ x y : Nat, ([(d0, d1), (d2, d3), (d4, d5)].take (i + 1)) = [(d0, d1), (d2, d3), (d4, d5)].take i ++ [(x, y)] ∧ x < 256 ∧ y < 256 ∧ (#[Value.int .u8 d0, .int .u8 d1, .int .u8 d2, .int .u8 d3, .int .u8 d4, .int .u8 d5, .int .u8 more, .slice Al links.length cl, .int .u8 dr] : Array Value)[2 * i]? = some (.int .u8 x) ∧ (#[Value.int .u8 d0, .int .u8 d1, .int .u8 d2, .int .u8 d3, .int .u8 d4, .int .u8 d5, .int .u8 more, .slice Al links.length cl, .int .u8 dr] : Array Value)[2 * i + 1]? = some (.int .u8 y) := fun i hi => by
    have h3 : i = 0 ∨ i = 1 ∨ i = 2 := by omega
    rcases h3 with rfl | rfl | rfl
    · exact ⟨d0, d1, rfl, h0.1, h0.2, rfl, rfl⟩
    · exact ⟨d2, d3, rfl, h1.1, h1.2, rfl, rfl⟩
    · exact ⟨d4, d5, rfl, h2.1, h2.2, rfl, rfl⟩
  have HDL := Lib.hid hdl
  clear hdl
  generalize hL : [(d0, d1), (d2, d3), (d4, d5)] = L at *
  go_cut [5, 6] from 16 to 44 (fun s5 s6 wx => ∃ v, Aside (OwnL (pb + 3) 62 2 CmpC wx v ((L.take n).map Cou.divOf)) ∧ Aside (Blk wx (pb + 1 + 1) 33 #[v, .slice none 0 0, .int .u64 0]) ∧ Aside (Blk wx (pb + 1) 33 #[.slice none 0 0, .slice none 0 0, .int .u64 0]) ∧ Aside (Blk wx pb 26 #[.int .u8 d0, .int .u8 d1, .int .u8 d2, .int .u8 d3, .int .u8 d4, .int .u8 d5, .int .u8 more, .slice Al links.length cl, .int .u8 dr]) ∧ Aside (Below w.heap.size w wx) ∧ Aside (pb + 3 ≤ wx.heap.size))
  case first =>
    go_wp2_with fail
    go_loopg [5] n (fun gg s5 wr => ∃ (i : Nat), i ≤ n ∧ n - i ≤ gg ∧ s5 = .int .i64 i ∧ Aside (∃ v, OwnL (pb + 3) 62 2 CmpC wr v ((L.take i).map Cou.divOf) ∧ Blk wr (pb + 1 + 1) 33 #[v, .slice none 0 0, .int .u64 0]) ∧ Aside (Blk wr (pb + 1) 33 #[.slice none 0 0, .slice none 0 0, .int .u64 0]) ∧ Aside (Blk wr pb 26 #[.int .u8 d0, .int .u8 d1, .int .u8 d2, .int .u8 d3, .int .u8 d4, .int .u8 d5, .int .u8 more, .slice Al links.length cl, .int .u8 dr]) ∧ Aside (Below w.heap.size w wr) ∧ Aside (pb + 3 ≤ wr.heap.size))
    case atStart => exact ⟨0, by omega, by omega, rfl, ⟨_, by simp only [List.take_zero, List.map_nil]; exact OwnL.nil, HAB.out⟩, HRB.out, HPB.out, HB1.out, by show _ ≤ _; omega⟩
    case round =>
      clear HAB HRB HPB HB1
      obtain ⟨i, hi, hg, rfl, ⟨v, hO, hA⟩, hR, hP, hB, hS⟩ := hrel
      replace hS : pb + 3 ≤ wr.heap.size := hS
      by_cases hlt : i < n
      · have hki : decide ((i : Int) < n) = true := decide_eq_true (by omega)
        obtain ⟨x, y, hsn, hx, hy, hcx, hcy⟩ := HDL.out i (by omega)
        have kx := (hP.cell (2 * i)).trans hcx
        have ky := (hP.cell (2 * i + 1)).trans hcy
        have hfx := hA.frozen 0
        have ka := hA.cell 0
        simp only [List.getElem?_toArray, List.getElem?_cons_zero] at ka
        obtain ⟨cs, q1, q2, q3⟩ := id hO
        have HSN := Lib.hid hsn
        have HO := Lib.hid hO
        have HA := Lib.hid hA
        have HR := Lib.hid hR
        have HP := Lib.hid hP
        have HB := Lib.hid hB
        have HQ1 := Lib.hid q1
        have HQ2 := Lib.hid q2
        have HQ3 := Lib.hid q3
        have hml : ((L.take i).map Cou.divOf).length ≤ 3 := by rw [List.length_map, List.length_take]; omega
        obtain ⟨m, hm9⟩ : ∃ m, ((L.take i).map Cou.divOf).length = m := ⟨_, rfl⟩
        rw [hm9] at hml
        have HM9 := Lib.hid hm9
        rw [hm9] at HQ3
        clear hm9
        clear hsn hO hA hR hP hB q1 q2 q3 hcx hcy
        have hi3 : i = 0 ∨ i = 1 ∨ i = 2 := by omega
        rcases hi3 with rfl | rfl | rfl
        · simp only [Nat.mul_zero, Nat.zero_add] at kx ky
          go_upto_region 7 with fail
          have hpl := HP.out.lt
          have hal := HA.out.lt
          have ky2 : ∀ o, (wr.alloc o).cell? ⟨pb, 1, none⟩ = some (.int .u8 y) := fun o => (Bc (Ba (B0 wr) o) hpl).trans ky
          have ka2 : ∀ o, (wr.alloc o).cell? ⟨pb + 1 + 1, 0, none⟩ = some v := fun o => (Bc (Ba (B0 wr) o) hal).trans ka
          have hy0 : (y : Int).tmod 13 = (y : Int) % 13 := Int.tmod_eq_emod_of_nonneg (by omega)
          have hy1 : IntKind.i64.wrap ((y : Int) % 13) = (y : Int) % 13 := by simp [IntKind.wrap, IntKind.bits, IntKind.signed]; omega
          have hy2 : IntKind.i64.wrap (36 + (x : Int) % 12 + (y : Int) % 13) = 36 + (x : Int) % 12 + (y : Int) % 13 := by simp [IntKind.wrap, IntKind.bits, IntKind.signed]; omega
          have hown9 : ∀ o, (wr.alloc o).drew.ownsRow (pb + 3) 62 2 v m cs.flatten := fun o => HQ3.out.alloc o
          have HOW9 := Lib.hid hown9
          have hfl9 : Flds (wr.alloc (.cells #[.int .i64 (36 + (x : Int) % 12), .int .i64 (36 + (x : Int) % 12 + (y : Int) % 13)] 62)).drew ⟨wr.heap.size, 0, none⟩ [.int .i64 (36 + (x : Int) % 12), .int .i64 (36 + (x : Int) % 12 + (y : Int) % 13)] := Flds.new wr _ _
          have HFL9 := Lib.hid hfl9
          clear hown9 hfl9
          go_region_law (refine step_appS elemCm (by omega) rfl _ _ rfl (pb + 3) v m cs.flatten rfl (HOW9.out _) ⟨wr.heap.size, 0, none⟩ 1 [.int .i64 (36 + (x : Int) % 12), .int .i64 (36 + (x : Int) % 12 + (y : Int) % 13)] rfl rfl HFL9.out (by simp [Value.oneCell']) (by omega) (by omega) (by simp; omega) ?_; intro g cap w8 hown8 hg8 hgg; have HO8 := Lib.hid hown8; have HG8 := Lib.hid hg8; have A8 := (HA.out.alloc (.cells #[.int .i64 (36 + (x : Int) % 12), .int .i64 (36 + (x : Int) % 12 + (y : Int) % 13)] 62)).drew.grown hg8 (fun e => own_ne HQ3.out HA.out (by decide) e.symm); have HA8 := Lib.hid A8; have a8 := A8.cell 0; have f8 := A8.frozen 0; simp only [List.getElem?_toArray, List.getElem?_cons_zero] at a8; clear hown8 hg8 hgg A8)
          all_goals
            go_wp2_with fail
            go_roundg (n - (0 + 1))
            case measure => omega
            case rel =>
              refine ⟨0 + 1, by omega, by omega, by go_num, ⟨_, (show OwnL _ _ _ _ _ _ _ from ?_), HA8.out.set_ 0 _⟩, (show Blk _ _ _ _ from ?_), (show Blk _ _ _ _ from ?_), (show Below _ _ _ from ?_), (show _ ≤ _ from ?_)⟩
              · rw [HSN.out, List.map_append]
                exact OwnL.snoc (c := [.int .i64 (36 + (x : Int) % 12), .int .i64 (36 + (x : Int) % 12 + (y : Int) % 13)]) HQ1.out HQ2.out rfl (by unfold CmpC Cou.divOf; simp) (fun _ _ h => h) (by rw [HM9.out]; exact ownsRow_setCell_below (a := ⟨pb + 1 + 1, 0, none⟩) HO8.out (by show pb + 1 + 1 < pb + 3; omega) _)
              · exact (((HR.out.alloc _).drew.grown HG8.out fun e => own_ne HQ3.out HR.out (by decide) e.symm).far (by simp) _)
              · exact (((HP.out.alloc _).drew.grown HG8.out fun e => own_ne HQ3.out HP.out (by decide) e.symm).far (by simp; omega) _)
              · exact ((((Ba HB.out _).drew).grown HG8.out (by have := HB.out.size; simp; omega) fun k e => by have := (HO.out.lt k e).1; have := HPP.out; omega).setCell (by have := HPP.out; simp; omega) _)
              · have := HG8.out.size
                simp at this ⊢
                omega
        · simp only [Nat.reduceMul, Nat.reduceAdd] at kx ky
          go_upto_region 7 with fail
          have hpl := HP.out.lt
          have hal := HA.out.lt
          have ky2 : ∀ o, (wr.alloc o).cell? ⟨pb, 3, none⟩ = some (.int .u8 y) := fun o => (Bc (Ba (B0 wr) o) hpl).trans ky
          have ka2 : ∀ o, (wr.alloc o).cell? ⟨pb + 1 + 1, 0, none⟩ = some v := fun o => (Bc (Ba (B0 wr) o) hal).trans ka
          have hy0 : (y : Int).tmod 13 = (y : Int) % 13 := Int.tmod_eq_emod_of_nonneg (by omega)
          have hy1 : IntKind.i64.wrap ((y : Int) % 13) = (y : Int) % 13 := by simp [IntKind.wrap, IntKind.bits, IntKind.signed]; omega
          have hy2 : IntKind.i64.wrap (36 + (x : Int) % 12 + (y : Int) % 13) = 36 + (x : Int) % 12 + (y : Int) % 13 := by simp [IntKind.wrap, IntKind.bits, IntKind.signed]; omega
          have hown9 : ∀ o, (wr.alloc o).drew.ownsRow (pb + 3) 62 2 v m cs.flatten := fun o => HQ3.out.alloc o
          have HOW9 := Lib.hid hown9
          have hfl9 : Flds (wr.alloc (.cells #[.int .i64 (36 + (x : Int) % 12), .int .i64 (36 + (x : Int) % 12 + (y : Int) % 13)] 62)).drew ⟨wr.heap.size, 0, none⟩ [.int .i64 (36 + (x : Int) % 12), .int .i64 (36 + (x : Int) % 12 + (y : Int) % 13)] := Flds.new wr _ _
          have HFL9 := Lib.hid hfl9
          clear hown9 hfl9
          go_region_law (refine step_appS elemCm (by omega) rfl _ _ rfl (pb + 3) v m cs.flatten rfl (HOW9.out _) ⟨wr.heap.size, 0, none⟩ 1 [.int .i64 (36 + (x : Int) % 12), .int .i64 (36 + (x : Int) % 12 + (y : Int) % 13)] rfl rfl HFL9.out (by simp [Value.oneCell']) (by omega) (by omega) (by simp; omega) ?_; intro g cap w8 hown8 hg8 hgg; have HO8 := Lib.hid hown8; have HG8 := Lib.hid hg8; have A8 := (HA.out.alloc (.cells #[.int .i64 (36 + (x : Int) % 12), .int .i64 (36 + (x : Int) % 12 + (y : Int) % 13)] 62)).drew.grown hg8 (fun e => own_ne HQ3.out HA.out (by decide) e.symm); have HA8 := Lib.hid A8; have a8 := A8.cell 0; have f8 := A8.frozen 0; simp only [List.getElem?_toArray, List.getElem?_cons_zero] at a8; clear hown8 hg8 hgg A8)
          all_goals
            go_wp2_with fail
            go_roundg (n - (1 + 1))
            case measure => omega
            case rel =>
              refine ⟨1 + 1, by omega, by omega, by go_num, ⟨_, (show OwnL _ _ _ _ _ _ _ from ?_), HA8.out.set_ 0 _⟩, (show Blk _ _ _ _ from ?_), (show Blk _ _ _ _ from ?_), (show Below _ _ _ from ?_), (show _ ≤ _ from ?_)⟩
              · rw [HSN.out, List.map_append]
                exact OwnL.snoc (c := [.int .i64 (36 + (x : Int) % 12), .int .i64 (36 + (x : Int) % 12 + (y : Int) % 13)]) HQ1.out HQ2.out rfl (by unfold CmpC Cou.divOf; simp) (fun _ _ h => h) (by rw [HM9.out]; exact ownsRow_setCell_below (a := ⟨pb + 1 + 1, 0, none⟩) HO8.out (by show pb + 1 + 1 < pb + 3; omega) _)
              · exact (((HR.out.alloc _).drew.grown HG8.out fun e => own_ne HQ3.out HR.out (by decide) e.symm).far (by simp) _)
              · exact (((HP.out.alloc _).drew.grown HG8.out fun e => own_ne HQ3.out HP.out (by decide) e.symm).far (by simp; omega) _)
              · exact ((((Ba HB.out _).drew).grown HG8.out (by have := HB.out.size; simp; omega) fun k e => by have := (HO.out.lt k e).1; have := HPP.out; omega).setCell (by have := HPP.out; simp; omega) _)
              · have := HG8.out.size
                simp at this ⊢
                omega
        · simp only [Nat.reduceMul, Nat.reduceAdd] at kx ky
          go_upto_region 7 with fail
          have hpl := HP.out.lt
          have hal := HA.out.lt
          have ky2 : ∀ o, (wr.alloc o).cell? ⟨pb, 5, none⟩ = some (.int .u8 y) := fun o => (Bc (Ba (B0 wr) o) hpl).trans ky
          have ka2 : ∀ o, (wr.alloc o).cell? ⟨pb + 1 + 1, 0, none⟩ = some v := fun o => (Bc (Ba (B0 wr) o) hal).trans ka
          have hy0 : (y : Int).tmod 13 = (y : Int) % 13 := Int.tmod_eq_emod_of_nonneg (by omega)
          have hy1 : IntKind.i64.wrap ((y : Int) % 13) = (y : Int) % 13 := by simp [IntKind.wrap, IntKind.bits, IntKind.signed]; omega
          have hy2 : IntKind.i64.wrap (36 + (x : Int) % 12 + (y : Int) % 13) = 36 + (x : Int) % 12 + (y : Int) % 13 := by simp [IntKind.wrap, IntKind.bits, IntKind.signed]; omega
          have hown9 : ∀ o, (wr.alloc o).drew.ownsRow (pb + 3) 62 2 v m cs.flatten := fun o => HQ3.out.alloc o
          have HOW9 := Lib.hid hown9
          have hfl9 : Flds (wr.alloc (.cells #[.int .i64 (36 + (x : Int) % 12), .int .i64 (36 + (x : Int) % 12 + (y : Int) % 13)] 62)).drew ⟨wr.heap.size, 0, none⟩ [.int .i64 (36 + (x : Int) % 12), .int .i64 (36 + (x : Int) % 12 + (y : Int) % 13)] := Flds.new wr _ _
          have HFL9 := Lib.hid hfl9
          clear hown9 hfl9
          go_region_law (refine step_appS elemCm (by omega) rfl _ _ rfl (pb + 3) v m cs.flatten rfl (HOW9.out _) ⟨wr.heap.size, 0, none⟩ 1 [.int .i64 (36 + (x : Int) % 12), .int .i64 (36 + (x : Int) % 12 + (y : Int) % 13)] rfl rfl HFL9.out (by simp [Value.oneCell']) (by omega) (by omega) (by simp; omega) ?_; intro g cap w8 hown8 hg8 hgg; have HO8 := Lib.hid hown8; have HG8 := Lib.hid hg8; have A8 := (HA.out.alloc (.cells #[.int .i64 (36 + (x : Int) % 12), .int .i64 (36 + (x : Int) % 12 + (y : Int) % 13)] 62)).drew.grown hg8 (fun e => own_ne HQ3.out HA.out (by decide) e.symm); have HA8 := Lib.hid A8; have a8 := A8.cell 0; have f8 := A8.frozen 0; simp only [List.getElem?_toArray, List.getElem?_cons_zero] at a8; clear hown8 hg8 hgg A8)
          all_goals
            go_wp2_with fail
            go_roundg (n - (2 + 1))
            case measure => omega
            case rel =>
              refine ⟨2 + 1, by omega, by omega, by go_num, ⟨_, (show OwnL _ _ _ _ _ _ _ from ?_), HA8.out.set_ 0 _⟩, (show Blk _ _ _ _ from ?_), (show Blk _ _ _ _ from ?_), (show Below _ _ _ from ?_), (show _ ≤ _ from ?_)⟩
              · rw [HSN.out, List.map_append]
                exact OwnL.snoc (c := [.int .i64 (36 + (x : Int) % 12), .int .i64 (36 + (x : Int) % 12 + (y : Int) % 13)]) HQ1.out HQ2.out rfl (by unfold CmpC Cou.divOf; simp) (fun _ _ h => h) (by rw [HM9.out]; exact ownsRow_setCell_below (a := ⟨pb + 1 + 1, 0, none⟩) HO8.out (by show pb + 1 + 1 < pb + 3; omega) _)
              · exact (((HR.out.alloc _).drew.grown HG8.out fun e => own_ne HQ3.out HR.out (by decide) e.symm).far (by simp) _)
              · exact (((HP.out.alloc _).drew.grown HG8.out fun e => own_ne HQ3.out HP.out (by decide) e.symm).far (by simp; omega) _)
              · exact ((((Ba HB.out _).drew).grown HG8.out (by have := HB.out.size; simp; omega) fun k e => by have := (HO.out.lt k e).1; have := HPP.out; omega).setCell (by have := HPP.out; simp; omega) _)
              · have := HG8.out.size
                simp at this ⊢
                omega
      · have hki : decide ((i : Int) < n) = false := decide_eq_false (by omega)
        have hii : i = n := by omega
        subst hii
        have HO := Lib.hid hO
        have HA := Lib.hid hA
        have HR := Lib.hid hR
        have HP := Lib.hid hP
        have HB := Lib.hid hB
        clear hO hA hR hP hB
        go_wp2_with fail
        go_meet
        exact ⟨v, HO.out, HA.out, HR.out, HP.out, HB.out, hS⟩
  case rest =>
    obtain ⟨v, hO, hA, hR, hP, hB, hS⟩ := hcut
    clear HPB HRB HAB HB1 HDL
    replace hO : OwnL (pb + 3) 62 2 CmpC wc v ((L.take n).map Cou.divOf) := hO
    replace hA : Blk wc (pb + 1 + 1) 33 #[v, .slice none 0 0, .int .u64 0] := hA
    replace hR : Blk wc (pb + 1) 33 #[.slice none 0 0, .slice none 0 0, .int .u64 0] := hR
    replace hP : Blk wc pb 26 #[.int .u8 d0, .int .u8 d1, .int .u8 d2, .int .u8 d3, .int .u8 d4, .int .u8 d5, .int .u8 more, .slice Al links.length cl, .int .u8 dr] := hP
    replace hB : Below w.heap.size w wc := hB
    replace hS : pb + 3 ≤ wc.heap.size := hS
    obtain ⟨i, rfl⟩ : ∃ i, i = n := ⟨_, rfl⟩
    have HO := Lib.hid hO
    have HA := Lib.hid hA
    have HR := Lib.hid hR
    have HP := Lib.hid hP
    have HB := Lib.hid hB
    clear hO hA hR hP hB
    go_upto_block 2 with fail
    obtain ⟨S, hSS⟩ : ∃ S, wc.heap.size = S := ⟨_, rfl⟩
    have hS3 : pb + 3 ≤ S := by omega
    have hvS : Hid (∀ b, v.ownBlock = some b → b < S) := Lib.hid (fun b e => hSS ▸ (HO.out.lt b e).2)
    go_cut [7, 8, 9] from 45 to 99 (fun s7 s8 s9 wx => ∃ u, Aside (OwnL S 46 5 CplC wx u (Cou.cpsL i 0 (links.take 4))) ∧ Aside (Blk wx (pb + 1 + 1) 33 #[v, u, .int .u64 0]) ∧ Aside (OwnL (pb + 3) 62 2 CmpC wx v ((L.take i).map Cou.divOf)) ∧ Aside (Blk wx (pb + 1) 33 #[.slice none 0 0, .slice none 0 0, .int .u64 0]) ∧ Aside (Blk wx pb 26 #[.int .u8 d0, .int .u8 d1, .int .u8 d2, .int .u8 d3, .int .u8 d4, .int .u8 d5, .int .u8 more, .slice Al links.length cl, .int .u8 dr]) ∧ Aside (Below w.heap.size w wx) ∧ Aside (S ≤ wx.heap.size))
    case first =>
      go_wp2_with fail
      go_loopg [7] 4 (fun gg s7 w2 => ∃ (j : Nat), j ≤ 4 ∧ j ≤ links.length ∧ 4 - j ≤ gg ∧ s7 = .int .i64 j ∧ Aside (∃ u, OwnL S 46 5 CplC w2 u (Cou.cpsL i 0 (links.take j)) ∧ Blk w2 (pb + 1 + 1) 33 #[v, u, .int .u64 0]) ∧ Aside (OwnL (pb + 3) 62 2 CmpC w2 v ((L.take i).map Cou.divOf)) ∧ Aside (Blk w2 (pb + 1) 33 #[.slice none 0 0, .slice none 0 0, .int .u64 0]) ∧ Aside (Blk w2 pb 26 #[.int .u8 d0, .int .u8 d1, .int .u8 d2, .int .u8 d3, .int .u8 d4, .int .u8 d5, .int .u8 more, .slice Al links.length cl, .int .u8 dr]) ∧ Aside (Below w.heap.size w w2) ∧ Aside (S ≤ w2.heap.size))
      case atStart => exact ⟨0, by omega, by omega, by omega, rfl, ⟨_, by simp only [List.take_zero, Cou.cpsL]; exact OwnL.nil, HA.out⟩, HO.out, HR.out, HP.out, HB.out, by show _ ≤ _; omega⟩
      case round =>
        clear HO HA HR HP HB hS hSS
        obtain ⟨j, hj, hjl, hg4, rfl, ⟨u, hU, hA⟩, hO, hR, hP, hB, hS⟩ := hrel
        replace hS : S ≤ wr.heap.size := hS
        replace hB : Below w.heap.size w wr := hB
        have kp := hP.cell 7
        simp only [List.getElem?_toArray, List.getElem?_cons_zero, List.getElem?_cons_succ] at kp
        by_cases hlt2 : j < links.length ∧ j < 4
        · obtain ⟨hjl2, hj4⟩ := hlt2
          have hkj : decide ((j : Int) < links.length) = true := decide_eq_true (by omega)
          have hkj4 : decide ((j : Int) < 4) = true := decide_eq_true (by omega)
          have hjI : (j : Int) < links.length := by omega
          obtain ⟨ad, cs, rfl, hfb, _, hcs, hfl⟩ := HLAT.out j hjl2
          unfold LkC at hcs
          subst hcs
          have hfb2 : (ad.add (j * 4)).block < w.heap.size := by rw [block_of_add]; exact hF _ hfb
          have hfl2 := hfl.below hB hfb2
          have f0 := hfl2.f0 rfl
          have f1 := hfl2.f1 rfl
          have f2 := hfl2.f2 rfl
          have f3 := hfl2.f3 rfl
          have hlx := hlk links[j] (List.getElem_mem hjl2)
          have htk : links.take (j + 1) = links.take j ++ [links[j]] := by rw [List.take_add_one, List.getElem?_eq_getElem hjl2]; rfl
          have hlen5 : (links.take j).length = j := by rw [List.length_take]; omega
          have HTK := Lib.hid htk
          have HL5 := Lib.hid hlen5
          have HU := Lib.hid hU
          have HA := Lib.hid hA
          have HO := Lib.hid hO
          have HR := Lib.hid hR
          have HP := Lib.hid hP
          have HB := Lib.hid hB
          clear htk hlen5 hU hA hO hR hP hB hfl hfl2
          generalize links[j] = x at *
          obtain ⟨xf, xt, xs, xh⟩ := x
          dsimp only at f0 f1 f2 f3 hlx
          go_upto_region 12 with fail
          obtain ⟨w3, hw3⟩ : ∃ w3 : World, wr.alloc (.cells #[.int .u8 xf, .int .u8 xt, .int .i8 xs, .bool xh] 84) = w3 := ⟨_, rfl⟩
          obtain ⟨bx, hbx⟩ : ∃ bx, wr.heap.size = bx := ⟨_, rfl⟩
          have LB : Blk w3 bx 84 #[.int .u8 xf, .int .u8 xt, .int .i8 xs, .bool xh] := by rw [← hw3, ← hbx]; exact Blk.new _ _ _
          have BL : Below wr.heap.size wr w3 := by rw [← hw3]; exact Ba (B0 wr) _
          have HBL := Lib.hid BL
          rw [hw3, hbx]
          have r1 : (xf : Int).tmod (i : Int) = ((xf % i : Nat) : Int) := by rw [Int.tmod_eq_emod_of_nonneg (by omega)]; simp
          have r2 : (xt : Int).tmod (i : Int) = ((xt % i : Nat) : Int) := by rw [Int.tmod_eq_emod_of_nonneg (by omega)]; simp
          have ri : (i : Int) ≠ 0 := by omega
          have ri2 : ((i : Int) == 0) = false := by simp; omega
          have g0 := LB.cell 0
          have g1 := LB.cell 1
          have g2 := LB.cell 2
          have g3 := LB.cell 3
          simp only [List.getElem?_toArray, List.getElem?_cons_zero, List.getElem?_cons_succ] at g0 g1 g2 g3
          have hl3 := LB.lt
          have g0' : ∀ o, (w3.alloc o).cell? ⟨bx, 0, none⟩ = some (.int .u8 xf) := fun o => (Bc (Ba (B0 w3) o) hl3).trans g0
          have g1' : ∀ o, (w3.alloc o).cell? ⟨bx, 1, none⟩ = some (.int .u8 xt) := fun o => (Bc (Ba (B0 w3) o) hl3).trans g1
          have g2' : ∀ o, (w3.alloc o).cell? ⟨bx, 2, none⟩ = some (.int .i8 xs) := fun o => (Bc (Ba (B0 w3) o) hl3).trans g2
          have g3' : ∀ o, (w3.alloc o).cell? ⟨bx, 3, none⟩ = some (.bool xh) := fun o => (Bc (Ba (B0 w3) o) hl3).trans g3
          have hj8 : IntKind.u8.wrap (j : Int) = j := by simp [IntKind.wrap, IntKind.bits, IntKind.signed]; omega
          have hj9 : IntKind.u8.wrap (48 + (j : Int)) = 48 + j := by simp [IntKind.wrap, IntKind.bits, IntKind.signed]; omega
          clear f0 f1 f2 f3 kp hw3 hbx BL
          have hcv := conv_nm j hj4
          go_cut [9] from 61 to 82 (fun s9 wx => CpMade wr ⟨Cou.nm j, (xf % i : Nat), (xt % i : Nat), xs.tmod 25, xh⟩ s9 wx)
          case first =>
            go_region
            all_goals as_aux_lemma =>
              have HLBX := Lib.hid hl3
              first
                | (obtain ⟨W, hW⟩ : ∃ W : World, ((w3.alloc (.cells #[.int .u8 99, .int .u8 (48 + (j : Int))] 5)).alloc (.cells #[.string (Cou.nm j), .int .i64 ((xf : Int) % (i : Int)), .int .i64 ((xt : Int) % (i : Int)), .int .i64 (xs.tmod 25), .bool xh] 46)).drew = W := ⟨_, rfl⟩
                   obtain ⟨cb, hcb⟩ : ∃ cb, w3.heap.size + 1 = cb := ⟨_, rfl⟩
                   rw [hW, hcb]
                   have CB : Blk W cb 46 #[.string (Cou.nm j), .int .i64 ((xf : Int) % (i : Int)), .int .i64 ((xt : Int) % (i : Int)), .int .i64 (xs.tmod 25), .bool xh] := by
                     rw [← hW, ← hcb]
                     have := (Blk.new (w3.alloc (.cells #[.int .u8 99, .int .u8 (48 + (j : Int))] 5)) 46 #[.string (Cou.nm j), .int .i64 ((xf : Int) % (i : Int)), .int .i64 ((xt : Int) % (i : Int)), .int .i64 (xs.tmod 25), .bool xh]).drew
                     simpa using this
                   have BW : Below wr.heap.size wr W := by rw [← hW]; exact (Ba (Ba HBL.out _) _).drew
                   have hcl : wr.heap.size ≤ cb := by have := HBL.out.size; omega)
                | (obtain ⟨W, hW⟩ : ∃ W : World, ((w3.alloc (.cells #[.string (Cou.nm j), .int .i64 ((xf : Int) % (i : Int)), .int .i64 ((xt : Int) % (i : Int)), .int .i64 (xs.tmod 25), .bool xh] 46)).alloc (.cells #[.int .u8 99, .int .u8 (48 + (j : Int))] 5)).drew = W := ⟨_, rfl⟩
                   obtain ⟨cb, hcb⟩ : ∃ cb, w3.heap.size = cb := ⟨_, rfl⟩
                   rw [hW, hcb]
                   have CB : Blk W cb 46 #[.string (Cou.nm j), .int .i64 ((xf : Int) % (i : Int)), .int .i64 ((xt : Int) % (i : Int)), .int .i64 (xs.tmod 25), .bool xh] := by
                     rw [← hW, ← hcb]
                     exact ((Blk.new w3 _ _).alloc _).drew
                   have BW : Below wr.heap.size wr W := by rw [← hW]; exact (Ba (Ba HBL.out _) _).drew
                   have hcl : wr.heap.size ≤ cb := by have := HBL.out.size; omega)
              obtain ⟨a1, ha1⟩ : ∃ a1 : Int, (xf : Int) % (i : Int) = a1 := ⟨_, rfl⟩
              obtain ⟨b1, hb1⟩ : ∃ b1 : Int, (xt : Int) % (i : Int) = b1 := ⟨_, rfl⟩
              obtain ⟨t1, ht1⟩ : ∃ t1 : Int, xs.tmod 25 = t1 := ⟨_, rfl⟩
              rw [ha1, hb1, ht1] at CB
              have e1 : ((xf % i : Nat) : Int) = a1 := ha1
              have e2 : ((xt % i : Nat) : Int) = b1 := hb1
              have HE1 := Lib.hid e1
              have HE2 := Lib.hid e2
              have HT1 := Lib.hid ht1
              have c1 := CB.cell 1
              have c2 := CB.cell 2
              have c3 := CB.cell 3
              have fz := CB.frozen 3
              simp only [List.getElem?_toArray, List.getElem?_cons_zero, List.getElem?_cons_succ] at c1 c2 c3
              have HCB := Lib.hid CB
              have HBW := Lib.hid BW
              have HCL := Lib.hid hcl
              clear ha1 hb1 ht1 e1 e2 r1 r2 ri ri2 g0 g1 g2 g3 g0' g1' g2' g3' hj8 hj9 hcv LB CB BW hcl hW hcb hl3 HLBX
              go_wp2_with fail
              go_meet
              exact ⟨cb, rfl, HCL.out, by dsimp only; rw [HE1.out, HE2.out, HT1.out]; exact HCB.out, HBW.out⟩
          case rest =>
            as_aux_lemma =>
            obtain ⟨cb, rfl, hcl, CB, BW⟩ := hcut
            obtain ⟨W, rfl⟩ : ∃ W, W = wc := ⟨_, rfl⟩
            obtain ⟨a1, ha1⟩ : ∃ a1 : Int, ((xf % i : Nat) : Int) = a1 := ⟨_, rfl⟩
            obtain ⟨b1, hb1⟩ : ∃ b1 : Int, ((xt % i : Nat) : Int) = b1 := ⟨_, rfl⟩
            obtain ⟨t1, ht1⟩ : ∃ t1 : Int, xs.tmod 25 = t1 := ⟨_, rfl⟩
            dsimp only at CB
            obtain ⟨cn, hcn⟩ : ∃ cn, Cou.nm j = cn := ⟨_, rfl⟩
            rw [hcn] at CB
            rw [ha1, hb1, ht1] at CB
            have HE1 := Lib.hid ha1
            have HE2 := Lib.hid hb1
            have HT1 := Lib.hid ht1
            have c1 := CB.cell 1
            have c2 := CB.cell 2
            have c3 := CB.cell 3
            have fz := CB.frozen 3
            simp only [List.getElem?_toArray, List.getElem?_cons_zero, List.getElem?_cons_succ] at c1 c2 c3
            have HCB := Lib.hid CB
            have HBW := Lib.hid BW
            have HCL := Lib.hid hcl
            clear g0 g1 g2 g3 g0' g1' g2' g3' r1 r2 ri ri2 hj8 hj9 LB hcv hl3 ha1 hb1 ht1 CB BW hcl
            have hcs : ∃ z3 : Int, Cou.cplF i j ⟨xf, xt, xs, xh⟩ = ⟨cn, a1, b1, z3, xh⟩ ∧ ((a1 = b1 ∧ t1 = 0 ∧ z3 = 12) ∨ (a1 = b1 ∧ t1 ≠ 0 ∧ z3 = t1) ∨ (a1 ≠ b1 ∧ z3 = t1)) := by
              have h1 := HE1.out
              have h2 := HE2.out
              have h3 := HT1.out
              unfold Cou.cplF
              simp only
              rw [h1, h2, h3, hcn]
              by_cases hq : xf % i = xt % i ∧ t1 = 0
              · rw [if_pos hq]; exact ⟨12, rfl, .inl ⟨by omega, hq.2, rfl⟩⟩
              · rw [if_neg hq]; exact ⟨t1, rfl, by by_cases h : a1 = b1
                                                   · exact .inr (.inl ⟨h, fun e => hq ⟨by omega, e⟩, rfl⟩)
                                                   · exact .inr (.inr ⟨h, rfl⟩)⟩
            obtain ⟨z3, hs, hcs⟩ := hcs
            have HS := Lib.hid hs
            clear hs hcn
            rcases hcs with ⟨hab, ht0, hz3⟩ | ⟨hab, ht0, hz3⟩ | ⟨hab, hz3⟩
            · as_aux_lemma =>
              subst hab
              subst ht0
              subst hz3
              go_upto_region 15 with fail
              obtain ⟨w5, hw5⟩ : ∃ w5, W.setCell ⟨cb, 3, none⟩ (.int .i64 12) = w5 := ⟨_, rfl⟩
              rw [hw5]
              have B5 : Below wr.heap.size wr w5 := by rw [← hw5]; exact HBW.out.setCell HCL.out _
              have C5 : Blk w5 cb 46 #[.string (cn), .int .i64 a1, .int .i64 a1, .int .i64 12, .bool xh] := by rw [← hw5]; exact HCB.out.set_ 3 _
              have hs2 := HS.out
              clear HS
              obtain ⟨z1, z2, z3, C5, hs⟩ : ∃ z1 z2 z3 : Int, Blk w5 cb 46 #[.string (cn), .int .i64 z1, .int .i64 z2, .int .i64 z3, .bool xh] ∧ Cou.cplF i j ⟨xf, xt, xs, xh⟩ = ⟨cn, z1, z2, z3, xh⟩ := ⟨_, _, _, C5, hs2⟩
              clear hs2
              have k0 := C5.cell 0
              have k1 := C5.cell 1
              have k2 := C5.cell 2
              have k3 := C5.cell 3
              have k4 := C5.cell 4
              simp only [List.getElem?_toArray, List.getElem?_cons_zero, List.getElem?_cons_succ] at k0 k1 k2 k3 k4
              have hO5 : OwnL (pb + 3) 62 2 CmpC w5 v ((L.take i).map Cou.divOf) := HO.out.keep rfl (fun xs hx => hx.kept (row := none) (only_of_below B5 none) (by cases hv : v.ownBlock <;> simp)) (fun _ _ h => h)
              have A5 := HA.out.below B5 HA.out.lt
              have R5 := HR.out.below B5 HR.out.lt
              have P5 := HP.out.below B5 HP.out.lt
              obtain ⟨cs, q1, q2, q3⟩ := HU.out
              have q4 := q3.kept (row := none) (only_of_below B5 none) (by cases hv : u.ownBlock <;> simp)
              have hBt : Below w.heap.size w w5 := Bt HB.out B5
              have hS5 : S ≤ w5.heap.size := by have := B5.size; omega
              have hml : (Cou.cpsL i 0 (links.take j)).length ≤ 4 := by rw [Cou.cpsL_len, HL5.out]; omega
              obtain ⟨m, hm9⟩ : ∃ m, (Cou.cpsL i 0 (links.take j)).length = m := ⟨_, rfl⟩
              rw [hm9] at hml q4
              have ka := A5.cell 1
              have fa := A5.frozen 1
              simp only [List.getElem?_toArray, List.getElem?_cons_zero, List.getElem?_cons_succ] at ka
              have HS := Lib.hid hs
              have HO5 := Lib.hid hO5
              have HA5 := Lib.hid A5
              have HR5 := Lib.hid R5
              have HP5 := Lib.hid P5
              have HQ1 := Lib.hid q1
              have HQ2 := Lib.hid q2
              have HQ3 := Lib.hid q4
              have HBt := Lib.hid hBt
              have HM9 := Lib.hid hm9
              have HLU := Lib.hid HU.out.lt
              clear B5 C5 hs c1 c2 c3 fz hO5 A5 R5 P5 q1 q2 q3 q4 hBt hm9
              go_wp2_with (first | (refine wpList_bs5 rfl _ rfl cn _ _ _ _ rfl ?_) | (at_builtin; refine wpList_appS elemCp (by omega) rfl _ _ rfl S u m _ rfl (HQ3.out.alloc _) ⟨w5.heap.size, 0, none⟩ 1 [.string (cn), .int .i64 z1, .int .i64 z2, .int .i64 z3, .bool xh] rfl rfl (Flds.new w5 _ _) (by simp [Value.oneCell']) (by omega) (by omega) (by simp; omega) ?_; intro g cap w8 hown8 hg8 hgg; have HO8 := Lib.hid hown8; have HG8 := Lib.hid hg8; have A8 := (HA5.out.alloc (.cells #[.string (cn), .int .i64 z1, .int .i64 z2, .int .i64 z3, .bool xh] 46)).grown hg8 (fun e => own_ne HQ3.out HA5.out (by decide) e.symm); have HA8 := Lib.hid A8; have a8 := A8.cell 1; have f8 := A8.frozen 1; simp only [List.getElem?_toArray, List.getElem?_cons_zero, List.getElem?_cons_succ] at a8; clear hown8 hg8 hgg A8))
              go_roundg (4 - (j + 1))
              case measure => omega
              case rel =>
                refine ⟨j + 1, by omega, by omega, by omega, by go_num, ⟨_, (show OwnL _ _ _ _ _ _ _ from ?_), HA8.out.set_ 1 _⟩, (show OwnL _ _ _ _ _ _ _ from ?_), (show Blk _ _ _ _ from ?_), (show Blk _ _ _ _ from ?_), (show Below _ _ _ from ?_), (show _ ≤ _ from ?_)⟩
                · rw [HTK.out, Cou.cpsL_snoc, HL5.out, Nat.zero_add, HS.out]
                  exact OwnL.snoc (c := [.string (cn), .int .i64 z1, .int .i64 z2, .int .i64 z3, .bool xh]) HQ1.out HQ2.out rfl rfl (fun _ _ h => h) (by rw [HM9.out]; exact ownsRow_setCell_below (a := ⟨pb + 1 + 1, 1, none⟩) HO8.out (by show pb + 1 + 1 < S; omega) _)
                · exact HO5.out.keep rfl (fun xs hx => ownsRow_setCell_below (a := ⟨pb + 1 + 1, 1, none⟩) ((hx.alloc _).kept HG8.out (by
                    cases hv : v.ownBlock with
                    | none => exact .inl rfl
                    | some b => exact .inr fun e => by have h1 := hvS.out b hv; have h2 := (HLU.out b e.symm).1; omega)) (by show pb + 1 + 1 < pb + 3; omega) _) (fun _ _ h => h)
                · exact ((HR5.out.alloc _).grown HG8.out fun e => own_ne HQ3.out HR5.out (by decide) e.symm).far (by simp) _
                · exact ((HP5.out.alloc _).grown HG8.out fun e => own_ne HQ3.out HP5.out (by decide) e.symm).far (by simp; omega) _
                · exact (((Ba HBt.out _).grown HG8.out (by have := HBt.out.size; simp; omega) fun k e => by have := (HLU.out k e).1; have := HPP.out; omega).setCell (by have := HPP.out; simp; omega) _)
                · have := HG8.out.size
                  simp at this ⊢
                  omega
            · as_aux_lemma =>
              subst hab
              subst hz3
              have htt : (z3 == 0) = false := by simpa using ht0
              go_upto_region 15 with fail
              clear htt ht0
              obtain ⟨w5, rfl⟩ : ∃ w5, w5 = W := ⟨_, rfl⟩
              have B5 := HBW.out
              have C5 := HCB.out
              have hs := HS.out
              obtain ⟨z1, rfl⟩ : ∃ z1, z1 = a1 := ⟨_, rfl⟩
              have k0 := C5.cell 0
              have k1 := C5.cell 1
              have k2 := C5.cell 2
              have k3 := C5.cell 3
              have k4 := C5.cell 4
              simp only [List.getElem?_toArray, List.getElem?_cons_zero, List.getElem?_cons_succ] at k0 k1 k2 k3 k4
              have hO5 : OwnL (pb + 3) 62 2 CmpC w5 v ((L.take i).map Cou.divOf) := HO.out.keep rfl (fun xs hx => hx.kept (row := none) (only_of_below B5 none) (by cases hv : v.ownBlock <;> simp)) (fun _ _ h => h)
              have A5 := HA.out.below B5 HA.out.lt
              have R5 := HR.out.below B5 HR.out.lt
              have P5 := HP.out.below B5 HP.out.lt
              obtain ⟨cs, q1, q2, q3⟩ := HU.out
              have q4 := q3.kept (row := none) (only_of_below B5 none) (by cases hv : u.ownBlock <;> simp)
              have hBt : Below w.heap.size w w5 := Bt HB.out B5
              have hS5 : S ≤ w5.heap.size := by have := B5.size; omega
              have hml : (Cou.cpsL i 0 (links.take j)).length ≤ 4 := by rw [Cou.cpsL_len, HL5.out]; omega
              obtain ⟨m, hm9⟩ : ∃ m, (Cou.cpsL i 0 (links.take j)).length = m := ⟨_, rfl⟩
              rw [hm9] at hml q4
              have ka := A5.cell 1
              have fa := A5.frozen 1
              simp only [List.getElem?_toArray, List.getElem?_cons_zero, List.getElem?_cons_succ] at ka
              have HS := Lib.hid hs
              have HO5 := Lib.hid hO5
              have HA5 := Lib.hid A5
              have HR5 := Lib.hid R5
              have HP5 := Lib.hid P5
              have HQ1 := Lib.hid q1
              have HQ2 := Lib.hid q2
              have HQ3 := Lib.hid q4
              have HBt := Lib.hid hBt
              have HM9 := Lib.hid hm9
              have HLU := Lib.hid HU.out.lt
              clear B5 C5 hs c1 c2 c3 fz hO5 A5 R5 P5 q1 q2 q3 q4 hBt hm9
              go_wp2_with (first | (refine wpList_bs5 rfl _ rfl cn _ _ _ _ rfl ?_) | (at_builtin; refine wpList_appS elemCp (by omega) rfl _ _ rfl S u m _ rfl (HQ3.out.alloc _) ⟨w5.heap.size, 0, none⟩ 1 [.string (cn), .int .i64 z1, .int .i64 z1, .int .i64 z3, .bool xh] rfl rfl (Flds.new w5 _ _) (by simp [Value.oneCell']) (by omega) (by omega) (by simp; omega) ?_; intro g cap w8 hown8 hg8 hgg; have HO8 := Lib.hid hown8; have HG8 := Lib.hid hg8; have A8 := (HA5.out.alloc (.cells #[.string (cn), .int .i64 z1, .int .i64 z1, .int .i64 z3, .bool xh] 46)).grown hg8 (fun e => own_ne HQ3.out HA5.out (by decide) e.symm); have HA8 := Lib.hid A8; have a8 := A8.cell 1; have f8 := A8.frozen 1; simp only [List.getElem?_toArray, List.getElem?_cons_zero, List.getElem?_cons_succ] at a8; clear hown8 hg8 hgg A8))
              go_roundg (4 - (j + 1))
              case measure => omega
              case rel =>
                refine ⟨j + 1, by omega, by omega, by omega, by go_num, ⟨_, (show OwnL _ _ _ _ _ _ _ from ?_), HA8.out.set_ 1 _⟩, (show OwnL _ _ _ _ _ _ _ from ?_), (show Blk _ _ _ _ from ?_), (show Blk _ _ _ _ from ?_), (show Below _ _ _ from ?_), (show _ ≤ _ from ?_)⟩
                · rw [HTK.out, Cou.cpsL_snoc, HL5.out, Nat.zero_add, HS.out]
                  exact OwnL.snoc (c := [.string (cn), .int .i64 z1, .int .i64 z1, .int .i64 z3, .bool xh]) HQ1.out HQ2.out rfl rfl (fun _ _ h => h) (by rw [HM9.out]; exact ownsRow_setCell_below (a := ⟨pb + 1 + 1, 1, none⟩) HO8.out (by show pb + 1 + 1 < S; omega) _)
                · exact HO5.out.keep rfl (fun xs hx => ownsRow_setCell_below (a := ⟨pb + 1 + 1, 1, none⟩) ((hx.alloc _).kept HG8.out (by
                    cases hv : v.ownBlock with
                    | none => exact .inl rfl
                    | some b => exact .inr fun e => by have h1 := hvS.out b hv; have h2 := (HLU.out b e.symm).1; omega)) (by show pb + 1 + 1 < pb + 3; omega) _) (fun _ _ h => h)
                · exact ((HR5.out.alloc _).grown HG8.out fun e => own_ne HQ3.out HR5.out (by decide) e.symm).far (by simp) _
                · exact ((HP5.out.alloc _).grown HG8.out fun e => own_ne HQ3.out HP5.out (by decide) e.symm).far (by simp; omega) _
                · exact (((Ba HBt.out _).grown HG8.out (by have := HBt.out.size; simp; omega) fun k e => by have := (HLU.out k e).1; have := HPP.out; omega).setCell (by have := HPP.out; simp; omega) _)
                · have := HG8.out.size
                  simp at this ⊢
                  omega
            · as_aux_lemma =>
              subst hz3
              have htt : (a1 == b1) = false := by simpa using hab
              go_upto_region 15 with fail
              clear htt hab
              obtain ⟨w5, rfl⟩ : ∃ w5, w5 = W := ⟨_, rfl⟩
              have B5 := HBW.out
              have C5 := HCB.out
              have hs := HS.out
              obtain ⟨z1, rfl⟩ : ∃ z1, z1 = a1 := ⟨_, rfl⟩
              obtain ⟨z2, rfl⟩ : ∃ z2, z2 = b1 := ⟨_, rfl⟩
              have k0 := C5.cell 0
              have k1 := C5.cell 1
              have k2 := C5.cell 2
              have k3 := C5.cell 3
              have k4 := C5.cell 4
              simp only [List.getElem?_toArray, List.getElem?_cons_zero, List.getElem?_cons_succ] at k0 k1 k2 k3 k4
              have hO5 : OwnL (pb + 3) 62 2 CmpC w5 v ((L.take i).map Cou.divOf) := HO.out.keep rfl (fun xs hx => hx.kept (row := none) (only_of_below B5 none) (by cases hv : v.ownBlock <;> simp)) (fun _ _ h => h)
              have A5 := HA.out.below B5 HA.out.lt
              have R5 := HR.out.below B5 HR.out.lt
              have P5 := HP.out.below B5 HP.out.lt
              obtain ⟨cs, q1, q2, q3⟩ := HU.out
              have q4 := q3.kept (row := none) (only_of_below B5 none) (by cases hv : u.ownBlock <;> simp)
              have hBt : Below w.heap.size w w5 := Bt HB.out B5
              have hS5 : S ≤ w5.heap.size := by have := B5.size; omega
              have hml : (Cou.cpsL i 0 (links.take j)).length ≤ 4 := by rw [Cou.cpsL_len, HL5.out]; omega
              obtain ⟨m, hm9⟩ : ∃ m, (Cou.cpsL i 0 (links.take j)).length = m := ⟨_, rfl⟩
              rw [hm9] at hml q4
              have ka := A5.cell 1
              have fa := A5.frozen 1
              simp only [List.getElem?_toArray, List.getElem?_cons_zero, List.getElem?_cons_succ] at ka
              have HS := Lib.hid hs
              have HO5 := Lib.hid hO5
              have HA5 := Lib.hid A5
              have HR5 := Lib.hid R5
              have HP5 := Lib.hid P5
              have HQ1 := Lib.hid q1
              have HQ2 := Lib.hid q2
              have HQ3 := Lib.hid q4
              have HBt := Lib.hid hBt
              have HM9 := Lib.hid hm9
              have HLU := Lib.hid HU.out.lt
              clear B5 C5 hs c1 c2 c3 fz hO5 A5 R5 P5 q1 q2 q3 q4 hBt hm9
              go_wp2_with (first | (refine wpList_bs5 rfl _ rfl cn _ _ _ _ rfl ?_) | (at_builtin; refine wpList_appS elemCp (by omega) rfl _ _ rfl S u m _ rfl (HQ3.out.alloc _) ⟨w5.heap.size, 0, none⟩ 1 [.string (cn), .int .i64 z1, .int .i64 z2, .int .i64 z3, .bool xh] rfl rfl (Flds.new w5 _ _) (by simp [Value.oneCell']) (by omega) (by omega) (by simp; omega) ?_; intro g cap w8 hown8 hg8 hgg; have HO8 := Lib.hid hown8; have HG8 := Lib.hid hg8; have A8 := (HA5.out.alloc (.cells #[.string (cn), .int .i64 z1, .int .i64 z2, .int .i64 z3, .bool xh] 46)).grown hg8 (fun e => own_ne HQ3.out HA5.out (by decide) e.symm); have HA8 := Lib.hid A8; have a8 := A8.cell 1; have f8 := A8.frozen 1; simp only [List.getElem?_toArray, List.getElem?_cons_zero, List.getElem?_cons_succ] at a8; clear hown8 hg8 hgg A8))
              go_roundg (4 - (j + 1))
              case measure => omega
              case rel =>
                refine ⟨j + 1, by omega, by omega, by omega, by go_num, ⟨_, (show OwnL _ _ _ _ _ _ _ from ?_), HA8.out.set_ 1 _⟩, (show OwnL _ _ _ _ _ _ _ from ?_), (show Blk _ _ _ _ from ?_), (show Blk _ _ _ _ from ?_), (show Below _ _ _ from ?_), (show _ ≤ _ from ?_)⟩
                · rw [HTK.out, Cou.cpsL_snoc, HL5.out, Nat.zero_add, HS.out]
                  exact OwnL.snoc (c := [.string (cn), .int .i64 z1, .int .i64 z2, .int .i64 z3, .bool xh]) HQ1.out HQ2.out rfl rfl (fun _ _ h => h) (by rw [HM9.out]; exact ownsRow_setCell_below (a := ⟨pb + 1 + 1, 1, none⟩) HO8.out (by show pb + 1 + 1 < S; omega) _)
                · exact HO5.out.keep rfl (fun xs hx => ownsRow_setCell_below (a := ⟨pb + 1 + 1, 1, none⟩) ((hx.alloc _).kept HG8.out (by
                    cases hv : v.ownBlock with
                    | none => exact .inl rfl
                    | some b => exact .inr fun e => by have h1 := hvS.out b hv; have h2 := (HLU.out b e.symm).1; omega)) (by show pb + 1 + 1 < pb + 3; omega) _) (fun _ _ h => h)
                · exact ((HR5.out.alloc _).grown HG8.out fun e => own_ne HQ3.out HR5.out (by decide) e.symm).far (by simp) _
                · exact ((HP5.out.alloc _).grown HG8.out fun e => own_ne HQ3.out HP5.out (by decide) e.symm).far (by simp; omega) _
                · exact (((Ba HBt.out _).grown HG8.out (by have := HBt.out.size; simp; omega) fun k e => by have := (HLU.out k e).1; have := HPP.out; omega).setCell (by have := HPP.out; simp; omega) _)
                · have := HG8.out.size
                  simp at this ⊢
                  omega
        · have hjt : links.take j = links.take 4 := by
            by_cases h4 : j = 4
            · rw [h4]
            · rw [List.take_of_length_le (by omega), List.take_of_length_le (by omega)]
          rw [hjt] at hU
          have HU := Lib.hid hU
          have HA := Lib.hid hA
          have HO := Lib.hid hO
          have HR := Lib.hid hR
          have HP := Lib.hid hP
          have HB := Lib.hid hB
          have hI : (j : Int) < links.length ∧ (j : Int) = 4 ∨ (links.length : Int) ≤ j := by omega
          clear hU hA hO hR hP hB hjt
          have hends : (decide ((j : Int) < links.length) = true ∧ decide (j < links.length) = true ∧ j = 4) ∨ (decide ((j : Int) < links.length) = false ∧ decide (j < links.length) = false) := by
            rcases hI with ⟨h1, h2⟩ | h1
            · exact .inl ⟨decide_eq_true h1, decide_eq_true (by omega), by omega⟩
            · exact .inr ⟨decide_eq_false (by omega), decide_eq_false (by omega)⟩
          clear hI hlt2
          rcases hends with ⟨d1, d2, rfl⟩ | ⟨d1, d2⟩
          all_goals (go_wp2_with fail; all_goals (go_meet; exact ⟨u, HU.out, HA.out, HO.out, HR.out, HP.out, HB.out, hS⟩))
    case rest =>
      obtain ⟨u, hU, hA, hO, hR, hP, hB, hS2⟩ := hcut
      clear HO HA HR HP HB
      obtain ⟨wr, rfl⟩ : ∃ wr, wr = wc := ⟨_, rfl⟩
      replace hU : OwnL S 46 5 CplC wr u (Cou.cpsL i 0 (links.take 4)) := hU
      replace hA : Blk wr (pb + 1 + 1) 33 #[v, u, .int .u64 0] := hA
      replace hO : OwnL (pb + 3) 62 2 CmpC wr v ((L.take i).map Cou.divOf) := hO
      replace hR : Blk wr (pb + 1) 33 #[.slice none 0 0, .slice none 0 0, .int .u64 0] := hR
      replace hP : Blk wr pb 26 #[.int .u8 d0, .int .u8 d1, .int .u8 d2, .int .u8 d3, .int .u8 d4, .int .u8 d5, .int .u8 more, .slice Al links.length cl, .int .u8 dr] := hP
      replace hB : Below w.heap.size w wr := hB
      replace hS : S ≤ wr.heap.size := hS2
      obtain ⟨m, hm9⟩ : ∃ m, (links.take 4).length = m := ⟨_, rfl⟩
      have hm4 : m ≤ 4 := by rw [← hm9, List.length_take]; omega
      have hcl : (Cou.cpsL i 0 (links.take 4)).length = m := by rw [Cou.cpsL_len, hm9]
      obtain ⟨Au, cu, rfl, _⟩ := id (hU.sl (F := fun b => S ≤ b) (by rw [hcl]; omega) (fun b h _ _ => h))
      rw [hcl] at hU hA
      obtain ⟨Av, cv, hv9, _⟩ := id (hO.sl (F := fun b => pb + 3 ≤ b) (by rw [List.length_map, List.length_take]; omega) (fun b h _ _ => h))
      obtain ⟨mv, hmv⟩ : ∃ mv, ((L.take i).map Cou.divOf).length = mv := ⟨_, rfl⟩
      rw [hmv] at hv9
      clear hmv
      subst hv9
      have k8 := hP.cell 8
      have a0 := hA.cell 0
      have a1 := hA.cell 1
      have a2 := hA.cell 2
      have fa := hA.frozen 2
      simp only [List.getElem?_toArray, List.getElem?_cons_zero, List.getElem?_cons_succ] at k8 a0 a1 a2
      have HU := Lib.hid hU
      have HA := Lib.hid hA
      have HO := Lib.hid hO
      have HR := Lib.hid hR
      have HP := Lib.hid hP
      have HB := Lib.hid hB
      have HM9 := Lib.hid hm9
      have hdn : dr < 2 ^ 64 := by omega
      have hz : ∃ X, (X = dr &&& (2 ^ m - 1)) ∧ bits .and .u64 (dr : Int) (IntKind.u64.wrap (IntKind.u64.wrap (2 ^ m) - 1)) = (X : Nat) := ⟨_, rfl, by
        rw [← Hit.u64_and dr (2 ^ m - 1) hdn (by have : 2 ^ m ≤ 2 ^ 4 := Nat.pow_le_pow_right (by decide) hm4; omega)]
        have h5 : m = 0 ∨ m = 1 ∨ m = 2 ∨ m = 3 ∨ m = 4 := by omega
        rcases h5 with rfl | rfl | rfl | rfl | rfl <;> rfl⟩
      obtain ⟨X, hX, hz⟩ := hz
      have HX := Lib.hid hX
      have hmI : (m : Int) ≤ 4 := by omega
      clear hU hA hO hR hP hB hm9 hcl hX hdn
      focus
        go_upto_region 17 with fail
        try rw [hz]
        all_goals
          have hA9 := HA.out.set_ 2 (.int .u64 X)
          have hR9 := HR.out.far (show pb + 1 ≠ (⟨pb + 1 + 1, 2, none⟩ : Addr).block by simp) (.int .u64 X)
          have hO9 : OwnL (pb + 3) 62 2 CmpC (wr.setCell ⟨pb + 1 + 1, 2, none⟩ (.int .u64 X)) (.slice Av mv cv) ((L.take i).map Cou.divOf) := HO.out.keep rfl (fun xs hx => ownsRow_setCell_below hx (by show pb + 1 + 1 < pb + 3; omega) _) (fun _ _ h => h)
          have hU9 := HU.out.keep (R' := CplC) (w' := wr.setCell ⟨pb + 1 + 1, 2, none⟩ (.int .u64 X)) rfl (fun xs hx => ownsRow_setCell_below hx (by show pb + 1 + 1 < S; omega) _) (fun _ _ h => h)
          have hB9 : Below w.heap.size w (wr.setCell ⟨pb + 1 + 1, 2, none⟩ (.int .u64 X)) := HB.out.setCell (by have := HPP.out; simp; omega) _
          have hS9 : S ≤ (wr.setCell ⟨pb + 1 + 1, 2, none⟩ (.int .u64 X)).heap.size := by simpa using hS
          obtain ⟨w9, hw9⟩ : ∃ w9 : World, wr.setCell ⟨pb + 1 + 1, 2, none⟩ (.int .u64 X) = w9 := ⟨_, rfl⟩
          rw [hw9] at hA9 hR9 hO9 hU9 hB9 hS9 ⊢
          simp only [List.setIfInBounds_toArray, List.set_cons_zero, List.set_cons_succ] at hA9
          have b0 := hA9.cell 0
          have b1 := hA9.cell 1
          have b2 := hA9.cell 2
          have fr := hR9.frozen
          have r0 := hR9.cell 0
          have r1 := hR9.cell 1
          have r2 := hR9.cell 2
          simp only [List.getElem?_toArray, List.getElem?_cons_zero, List.getElem?_cons_succ] at b0 b1 b2 r0 r1 r2
          have HR9 := Lib.hid hR9
          have HO9 := Lib.hid hO9
          have HU9 := Lib.hid hU9
          have HB9 := Lib.hid hB9
          clear hA9 hR9 hO9 hU9 hB9 HA HR HO HU HB HP hz k8 a0 a1 a2 fa hw9
          go_wp2_with fail
          refine bodyPost_ret (v := .agg #[.slice Av mv cv, .slice Au m cu, .int .u64 X]) ?_ rfl ?_
          · have KF := ((HR9.out.set_ 0 (.slice Av mv cv)).set_ 1 (.slice Au m cu)).set_ 2 (.int .u64 X)
            have m0 := KF.cell 0
            have m1 := KF.cell 1
            have m2 := KF.cell 2
            simp only [List.setIfInBounds_toArray, List.set_cons_zero, List.set_cons_succ, List.getElem?_toArray, List.getElem?_cons_zero, List.getElem?_cons_succ] at m0 m1 m2
            clear HR9 HO9 HU9 HB9 KF HX HM9
            simp [results, Tryd.results12, go_sem, m0, m1, m2]
          · as_aux_lemma =>
            have hB := ((HB9.out.setCell (p := ⟨pb + 1, 0, none⟩) (by have := HPP.out; simp; omega) (.slice Av mv cv)).setCell (p := ⟨pb + 1, 1, none⟩) (by have := HPP.out; simp; omega) (.slice Au m cu)).setCell (p := ⟨pb + 1, 2, none⟩) (by have := HPP.out; simp; omega) (.int .u64 X)
            refine ⟨.slice Av mv cv, .slice Au m cu, ?_, ⟨fun b h => h.2, ?_, ?_⟩, ?_, ?_, hB⟩
            · rw [show (Cou.makeF ⟨_, more, links, dr⟩).drawn = X from by rw [HX.out]; show dr &&& (2 ^ (links.take 4).length - 1) = _; rw [HM9.out]]
            · have h9 := HO9.out.keep (R' := CmpC) (w' := ((w9.setCell ⟨pb + 1, 0, none⟩ (.slice Av mv cv)).setCell ⟨pb + 1, 1, none⟩ (.slice Au m cu)).setCell ⟨pb + 1, 2, none⟩ (.int .u64 X)) rfl (fun xs hx => ownsRow_setCell_below (ownsRow_setCell_below (ownsRow_setCell_below hx (by show pb + 1 < pb + 3; omega) _) (by show pb + 1 < pb + 3; omega) _) (by show pb + 1 < pb + 3; omega) _) (fun _ _ h => h)
              have h10 := h9.sl (F := fun b => w.heap.size ≤ b ∧ b < (((w9.setCell ⟨pb + 1, 0, none⟩ (.slice Av mv cv)).setCell ⟨pb + 1, 1, none⟩ (.slice Au m cu)).setCell ⟨pb + 1, 2, none⟩ (.int .u64 X)).heap.size) (by rw [List.length_map, List.length_take]; omega) (fun b h1 h2 _ => ⟨by have := HPP.out; omega, h2⟩)
              show SlD _ _ (.slice Av mv cv) (((_ : List (Nat × Nat)).take (1 + more % 3)).map Cou.divOf)
              rw [HN.out]
              exact h10
            · have h9 := HU9.out.keep (R' := CplC) (w' := ((w9.setCell ⟨pb + 1, 0, none⟩ (.slice Av mv cv)).setCell ⟨pb + 1, 1, none⟩ (.slice Au m cu)).setCell ⟨pb + 1, 2, none⟩ (.int .u64 X)) rfl (fun xs hx => ownsRow_setCell_below (ownsRow_setCell_below (ownsRow_setCell_below hx (by show pb + 1 < S; omega) _) (by show pb + 1 < S; omega) _) (by show pb + 1 < S; omega) _) (fun _ _ h => h)
              have h10 := h9.sl (F := fun b => w.heap.size ≤ b ∧ b < (((w9.setCell ⟨pb + 1, 0, none⟩ (.slice Av mv cv)).setCell ⟨pb + 1, 1, none⟩ (.slice Au m cu)).setCell ⟨pb + 1, 2, none⟩ (.int .u64 X)).heap.size) (by rw [Cou.cpsL_len, HM9.out]; omega) (fun b h1 h2 _ => ⟨by have := HPP.out; omega, h2⟩)
              show SlCp _ _ _ (Cou.cpsL (1 + more % 3) 0 (links.take 4))
              rw [HN.out]
              exact h10
            · have h9 := HO9.out.keep (R' := CmpC) (w' := ((w9.setCell ⟨pb + 1, 0, none⟩ (.slice Av mv cv)).setCell ⟨pb + 1, 1, none⟩ (.slice Au m cu)).setCell ⟨pb + 1, 2, none⟩ (.int .u64 X)) rfl (fun xs hx => ownsRow_setCell_below (ownsRow_setCell_below (ownsRow_setCell_below hx (by show pb + 1 < pb + 3; omega) _) (by show pb + 1 < pb + 3; omega) _) (by show pb + 1 < pb + 3; omega) _) (fun _ _ h => h)
              show OwnL _ _ _ _ _ (.slice Av mv cv) (((_ : List (Nat × Nat)).take (1 + more % 3)).map Cou.divOf)
              rw [HN.out]
              exact h9.more (by have := HPP.out; omega)
            · have h9 := HU9.out.keep (R' := CplC) (w' := ((w9.setCell ⟨pb + 1, 0, none⟩ (.slice Av mv cv)).setCell ⟨pb + 1, 1, none⟩ (.slice Au m cu)).setCell ⟨pb + 1, 2, none⟩ (.int .u64 X)) rfl (fun xs hx => ownsRow_setCell_below (ownsRow_setCell_below (ownsRow_setCell_below hx (by show pb + 1 < S; omega) _) (by show pb + 1 < S; omega) _) (by show pb + 1 < S; omega) _) (fun _ _ h => h)
              show OwnL _ _ _ _ _ _ (Cou.cpsL (1 + more % 3) 0 (links.take 4))
              rw [HN.out]
              exact h9.more (by have := HPP.out; omega)
theorem make_any (p : Cou.Pl) (hp : PlOk p) (vl : Value) (w : World) (F : Nat → Prop) (hF : ∀ b, F b → b < w.heap.size) (hl : SlLk F w vl p.links) :
    Calls Tryd.prog 12 #[.agg (plCells p vl)] w fun e w' => ∃ vd vc, e = .returned (.agg #[vd, vc, .int .u64 (Cou.makeF p).drawn]) ∧ AcAt (fun b => w.heap.size ≤ b ∧ b < w'.heap.size) w' vd vc (Cou.makeF p) ∧ Below w.heap.size w w' :=
  (make_own p hp vl w F hF hl).mono fun _ _ ⟨vd, vc, h1, h2, _, _, h5⟩ => ⟨vd, vc, h1, h2, h5⟩
end Go.Proofs.YtahlfndlkfoikaaDoor
