/- The statement of limits, walked. -/
import Derived.Test.YtahlfndlkfoikaaDoorJg
import Derived.Test.YtahlfndlkfoikaaDoorIe
import Derived.Test.YtahlfndlkfoikaaDoorFc
import Derived.Laws.IdiomStrings
namespace Go.Proofs.YtahlfndlkfoikaaDoor
open Go Go.RowKit Go.Shelf
theorem addZ (ad : Addr) : ad.add 0 = ad := by
  obtain ⟨b, o, s⟩ := ad
  cases s <;> simp [Addr.add]
theorem conv_nmL (j : Nat) (hj : j < 8) (W : World) (g : Nat) (h0 : W.cell? ⟨g, 0, none⟩ = some (.int .u8 99)) (h1 : W.cell? ⟨g, 1, none⟩ = some (.int .u8 (48 + (j : Int)))) :
    (convert 77 9 (.slice (some ⟨g, 0, none⟩) 2 2)).run Tryd.prog W = .ok (.string (Cha.limC j).name) W := by
  have hu : ((48 + j).toUInt8.toNat : Int) = 48 + (j : Int) := by
    have : (48 + j).toUInt8.toNat = 48 + j := by rw [Nat.toUInt8, UInt8.toNat_ofNat']; omega
    rw [this]; omega
  have := run_convert_bytes_back (P := Tryd.prog) W 77 9 5 ⟨g, 0, none⟩ 2 [99, (48 + j).toUInt8] Tryd.underlying77 Tryd.underlying5 Tryd.underlying9 fun k hk => by
    have hk2 : k = 0 ∨ k = 1 := by simp at hk; omega
    rcases hk2 with rfl | rfl
    · simpa [Addr.add] using h0
    · simp only [List.getElem_cons_succ, List.getElem_cons_zero]
      rw [hu]
      simpa [Addr.add] using h1
  exact this
theorem infoCpL : (Tryd.prog.info? 46).map (fun i => (i.zero, i.size, i.bytes)) = some (some (.agg #[.string ByteArray.empty, .int .i64 0, .int .i64 0, .int .i64 0, .bool false]), 5, 48) := by kernel_rfl
theorem elemCpL : ElemN Tryd.prog 30 46 5 48 := ⟨Tryd.underlying30, by
  obtain ⟨i, hi, hz, hs, hb⟩ := info_parts infoCpL
  exact ⟨i, _, hi, hz, hs, hb, rfl⟩⟩
theorem run_bs5L (s : ByteArray) (z1 z2 z3 : Int) (b : Bool) (W : World) : (Instr.buildSlice 30 1 #[(0, .agg #[.string s, .int .i64 z1, .int .i64 z2, .int .i64 z3, .bool b])]).run Tryd.prog W = .ok (.slice (some ⟨W.heap.size, 0, none⟩) 1 1) (W.alloc (.cells #[.string s, .int .i64 z1, .int .i64 z2, .int .i64 z3, .bool b] 46)) := by kernel_rfl
theorem wpList_bs5L {ops : Array Oper} {rest : List Oper} {o : Oper} {a : Act} {Q : Exit → Act → World → Prop} {w : World} (hgd : o.guard = none) (x : Operand) (ho : o.op = .buildSlice 30 1 #[(0, x)])
    (s : ByteArray) (z1 z2 z3 : Int) (b : Bool) (hx : a.eval x = .agg #[.string s, .int .i64 z1, .int .i64 z2, .int .i64 z3, .bool b])
    (h : wpList Tryd.prog ops Q rest (a.put o.dst (.slice (some ⟨w.heap.size, 0, none⟩) 1 1)) (w.alloc (.cells #[.string s, .int .i64 z1, .int .i64 z2, .int .i64 z3, .bool b] 46))) : wpList Tryd.prog ops Q (o :: rest) a w :=
  wpList_plain hgd fun K hK => by
    unfold Oper.wp execOp
    have e : #[((0 : Nat), x)].map (fun p => (p.1, a.eval p.2)) = #[(0, .agg #[.string s, .int .i64 z1, .int .i64 z2, .int .i64 z3, .bool b])] := by simp [hx]
    simp only [ho, e, Sem.run_bind, Sem.run_pure, Result.andThen_ok, run_bs5L]
    exact hK _ _ h
set_option maxRecDepth 100000 in
set_option maxHeartbeats 8000000 in
theorem law_limits (n : Nat) (w : World) (hW : WOk w) :
    Calls Tryd.prog 9 #[.int .u8 n] w fun e w' => e = .returned (.bool true) ∧ Below w.heap.size w w' := by
  have HKN := Lib.hid hW.known
  obtain ⟨k, hk⟩ : ∃ k, n % 20 = k := ⟨_, rfl⟩
  have hk20 : k < 20 := by omega
  have hrem : (n : Int).tmod 20 = k := by rw [← hk]; rfl
  have hrem2 : (n : Int) % 20 = k := by omega
  have v8 : IntKind.u8.wrap (k : Int) = k := by simp [IntKind.wrap, IntKind.bits, IntKind.signed]; omega
  have v64 : IntKind.i64.wrap (k : Int) = k := IntWalk.i64_in _ (by omega)
  clear hk
  go_enter Tryd.func9, Tryd.ntmps9
  go_upto_region 3 with (go_at_call 11; (with_reducible refine (HKN.out.mono ?_)); rintro e w2 ⟨rfl, hb2⟩; have HB2 := Lib.hid hb2; clear hb2)
  obtain ⟨g0, hg0⟩ : ∃ g0, w2.heap.size = g0 := ⟨_, rfl⟩
  obtain ⟨ab, hab⟩ : ∃ ab, g0 + 1 = ab := ⟨_, rfl⟩
  obtain ⟨w3, hw3⟩ : ∃ w3 : World, (w2.alloc (.cells #[.int .i64 0, .int .i64 40] 62)).alloc (.cells #[.slice (some ⟨g0, 0, none⟩) 1 1, .slice none 0 0, .int .u64 255] 33) = w3 := ⟨_, rfl⟩
  have G3 : Blk w3 g0 62 #[.int .i64 0, .int .i64 40] := by rw [← hw3, ← hg0]; exact (Blk.new _ _ _).alloc _
  have A3 : Blk w3 ab 33 #[.slice (some ⟨g0, 0, none⟩) 1 1, .slice none 0 0, .int .u64 255] := by
    have := Blk.new (w2.alloc (.cells #[.int .i64 0, .int .i64 40] 62)) 33 #[.slice (some ⟨g0, 0, none⟩) 1 1, .slice none 0 0, .int .u64 255]
    rw [hw3] at this
    rw [← hab, ← hg0]; simpa [hg0] using this
  have hs3 : w3.heap.size = ab + 1 := by rw [← hw3, ← hab, ← hg0]; simp
  have B3 : Below w2.heap.size w2 w3 := by rw [← hw3]; exact Ba (Ba (B0 w2) _) _
  have HG3 := Lib.hid G3
  have HA3 := Lib.hid A3
  have HS3 := Lib.hid hs3
  have HB3 := Lib.hid B3
  have HG0 := Lib.hid hg0
  have HAB := Lib.hid hab
  have HW3 := Lib.hid hw3
  clear G3 A3 hs3 B3 hab hw3 hg0
  go_upto_region 4 with fail
  rw [HG0.out, HAB.out]
  try rw [HW3.out]
  go_wp2_with fail
  go_loopg [4] 8 (fun gg s4 wr => ∃ (i : Nat) (v : Value), i ≤ 8 ∧ 8 - i ≤ gg ∧ s4 = .int .i64 i ∧ Aside (Blk wr ab 33 #[.slice (some ⟨g0, 0, none⟩) 1 1, v, .int .u64 255]) ∧ Aside (Blk wr g0 62 #[.int .i64 0, .int .i64 40]) ∧ Aside (OwnL w3.heap.size 46 5 CplC wr v ((List.range i).map Cha.limC)) ∧ Aside (Below g0 w2 wr) ∧ Aside (w3.heap.size ≤ wr.heap.size))
  case atStart => exact ⟨0, _, by omega, by omega, rfl, HA3.out, HG3.out, OwnL.nil, (show Aside _ from by show Below _ _ _; have h := HB3.out; rwa [HG0.out] at h), Nat.le_refl _⟩
  case round =>
    obtain ⟨i, v, hi, hg, rfl, HA, HG, HO, HB, HSZ⟩ := hrel
    replace HA : Hid (Blk wr ab 33 #[.slice (some ⟨g0, 0, none⟩) 1 1, v, .int .u64 255]) := Lib.hid HA
    replace HG : Hid (Blk wr g0 62 #[.int .i64 0, .int .i64 40]) := Lib.hid HG
    replace HO : Hid (OwnL w3.heap.size 46 5 CplC wr v ((List.range i).map Cha.limC)) := Lib.hid HO
    replace HB : Hid (Below g0 w2 wr) := Lib.hid HB
    replace HSZ : Hid (w3.heap.size ≤ wr.heap.size) := Lib.hid HSZ
    have hll : ((List.range i).map Cha.limC).length = i := by simp
    have hc0 := HA.out.cell 0
    have hc1 := HA.out.cell 1
    have hc2 := HA.out.cell 2
    simp only [List.getElem?_toArray, List.getElem?_cons_zero, List.getElem?_cons_succ] at hc0 hc1 hc2
    by_cases hlt : i < 8
    · have hiI : decide ((i : Int) < 8) = true := decide_eq_true (by omega)
      obtain ⟨Av, cv, hv, -, -⟩ := HO.out.sl (F := fun _ => True) (by rw [hll]; omega) fun _ _ _ _ => trivial
      rw [hll] at hv
      subst hv
      have u1 : IntKind.u8.wrap (i : Int) = i := by simp [IntKind.wrap, IntKind.bits, IntKind.signed]; omega
      have u2 : IntKind.u8.wrap (48 + (i : Int)) = 48 + i := by simp [IntKind.wrap, IntKind.bits, IntKind.signed]; omega
      have hcv := conv_nmL i hlt
      obtain ⟨nm, hnm⟩ : ∃ nm, (Cha.limC i).name = nm := ⟨_, rfl⟩
      rw [hnm] at hcv
      have hli : CplC wr [.string nm, .int .i64 0, .int .i64 0, .int .i64 ((i : Int) + 1), .bool true] (Cha.limC i) := by unfold CplC; rw [hnm]; rfl
      have HLI := Lib.hid hli
      obtain ⟨cs, q1, q2, q3⟩ := HO.out
      rw [hll] at q1 q3
      obtain ⟨w5, hw5⟩ : ∃ w5 : World, wr.alloc (.cells #[.int .u8 99, .int .u8 (48 + (i : Int))] 5) = w5 := ⟨_, rfl⟩
      have q35 : w5.ownsRow w3.heap.size 46 5 (.slice Av i cv) i cs.flatten := by rw [← hw5]; exact q3.alloc _
      have A5 : Blk w5 ab 33 #[.slice (some ⟨g0, 0, none⟩) 1 1, .slice Av i cv, .int .u64 255] := by rw [← hw5]; exact HA.out.alloc _
      have G5 : Blk w5 g0 62 #[.int .i64 0, .int .i64 40] := by rw [← hw5]; exact HG.out.alloc _
      have hsz5 : w3.heap.size ≤ w5.heap.size := by rw [← hw5]; have := HSZ.out; simp; omega
      have hg2 : g0 ≤ wr.heap.size := by have h1 := HSZ.out; have h2 := HS3.out; have h3 := HAB.out; omega
      have B5 : Below g0 w2 w5 := by rw [← hw5]; exact HB.out.alloc hg2 _
      have HQ1 := Lib.hid q1
      have HQ2 := Lib.hid q2
      have HQ3 := Lib.hid q35
      have HA5 := Lib.hid A5
      have HG5 := Lib.hid G5
      have HB5 := Lib.hid B5
      have HZ5 := Lib.hid hsz5
      have HW5 := Lib.hid hw5
      clear q1 q2 q3 q35 A5 G5 B5 hsz5 hw5 hli hll hnm
      go_upto_region 7 with fail
      go_wp2_with (first | (refine wpList_bs5L rfl _ rfl nm _ _ _ _ rfl ?_; try rw [HW5.out]) | (at_builtin; refine wpList_appS elemCpL (by omega) rfl _ _ rfl w3.heap.size _ i _ rfl (HQ3.out.alloc _) ⟨w5.heap.size, 0, none⟩ 1 [.string nm, .int .i64 0, .int .i64 0, .int .i64 ((i : Int) + 1), .bool true] rfl rfl (Flds.new w5 _ _) (by simp [Value.oneCell']) (by omega) (by omega) (by have := HZ5.out; simp; omega) ?_; intro g cap w8 hown8 hg8 hgg; have HO8 := Lib.hid hown8; have HG8 := Lib.hid hg8; have A8 := (HA5.out.alloc (.cells #[.string nm, .int .i64 0, .int .i64 0, .int .i64 ((i : Int) + 1), .bool true] 46)).grown hg8 (fun e => own_ne HQ3.out HA5.out (by decide) e.symm); have HA8 := Lib.hid A8; have a8 := A8.cell 1; have f8 := A8.frozen 1; simp only [List.getElem?_toArray, List.getElem?_cons_zero, List.getElem?_cons_succ] at a8; clear hown8 hg8 hgg A8))
      go_roundg (8 - (i + 1))
      case measure => omega
      case rel =>
        have hab : ab < w3.heap.size := by have := HS3.out; omega
        have hga : g0 ≠ ab := by have := HAB.out; omega
        refine ⟨i + 1, _, by omega, by omega, by go_num, (show Aside _ from by show Blk _ _ _ _; simpa using HA8.out.set_ 1 (.slice (some ⟨g, 0, none⟩) (i + 1) cap)), (show Aside _ from by show Blk _ _ _ _; exact ((HG5.out.alloc _).grown HG8.out (fun e => own_ne HQ3.out HG5.out (by decide) e.symm)).far (p := ⟨ab, 1, none⟩) hga _), (show Aside _ from ?_), (show Aside _ from ?_), (show Aside _ from ?_)⟩
        · show OwnL _ _ _ _ _ _ _
          rw [List.range_succ, List.map_append]
          exact OwnL.snoc (c := [.string nm, .int .i64 0, .int .i64 0, .int .i64 ((i : Int) + 1), .bool true]) (by simp [HQ1.out]) (fun j h => HQ2.out j h) rfl HLI.out (fun _ _ h => h) (by rw [List.length_map, List.length_range]; exact ownsRow_setCell_below (a := ⟨ab, 1, none⟩) HO8.out hab _)
        · show Below _ _ _
          have hz5 := HZ5.out
          have hs := HS3.out
          have x3 := HB5.out.alloc (show g0 ≤ w5.heap.size by have := HAB.out; omega) (.cells #[.string nm, .int .i64 0, .int .i64 0, .int .i64 ((i : Int) + 1), .bool true] 46)
          have x4 := x3.grown HG8.out (by have := HAB.out; simp; omega) (fun j e => by have := (HQ3.out.lt j e).1; have := HAB.out; omega)
          exact x4.setCell (by have := HAB.out; show g0 ≤ ab; omega) _
        · show _ ≤ _
          have h1 := HG8.out.size
          have h2 := HZ5.out
          simp only [World.size_alloc] at h1
          simp
          omega
    · obtain rfl : i = 8 := by omega
      have hsl := HO.out.sl (F := fun b => b < wr.heap.size) (by rw [hll]; omega) fun b _ h _ => h
      obtain ⟨Av, cv, hv, hc8, hl8, hat8⟩ := hsl
      rw [hll] at hv
      subst hv
      have hsl : SlCp (fun b => b < wr.heap.size) wr (.slice Av 8 cv) ((List.range 8).map Cha.limC) := ⟨Av, cv, by rw [hll], hc8, hl8, hat8⟩
      have hsd : SlD (fun b => b < wr.heap.size) wr (.slice (some ⟨g0, 0, none⟩) 1 1) [(0, 40)] := by
        refine ⟨some ⟨g0, 0, none⟩, 1, rfl, by simp, by simp, fun j hj => ?_⟩
        have hj0 : j = 0 := by simpa using hj
        subst hj0
        refine ⟨⟨g0, 0, none⟩, [.int .i64 0, .int .i64 40], rfl, HG.out.lt, rfl, rfl, fun q u hu => ?_⟩
        have hq : q = 0 ∨ q = 1 := by
          have := (List.getElem?_eq_some_iff.1 hu).1
          simp at this; omega
        rcases hq with rfl | rfl
        · have := HG.out.cell 0
          simp at hu this
          subst hu
          simpa [Addr.add] using this
        · have := HG.out.cell 1
          simp at hu this
          subst hu
          simpa [Addr.add] using this
      have hAC : AcAt (fun b => b < wr.heap.size) wr (.slice (some ⟨g0, 0, none⟩) 1 1) (.slice Av 8 cv) Cha.limA := ⟨fun _ h => h, hsd, hsl⟩
      have hbg := Cha.lim_beg ⟨k, hk20⟩
      have hle := Cha.lim_least ⟨k, hk20⟩
      dsimp only at hbg hle
      have har : Cha.allR Cha.limA (0, (k : Int)) = (4, []) := by unfold Cha.allR; rw [if_pos hbg.1, Cha.lim_all k hk20]
      have htr : Cha.toR Cha.limA (0, (k : Int)) (0, (k : Int) + 3) = (4, []) := by unfold Cha.toR; rw [if_pos hbg.2, Cha.lim_all k hk20]
      have hlr : Cha.leastR Cha.limA (0, (k : Int)) (0, (k : Int) + 3) = (0, some ([2], (0, (k : Int) + 3))) := by unfold Cha.leastR; rw [if_pos hbg.2, hle]
      have hAL := fun W (hb : Below wr.heap.size wr W) => All_any Cha.limA (.slice (some ⟨g0, 0, none⟩) 1 1) (.slice Av 8 cv) (by decide) (0, (k : Int)) W _ (hAC.on hb).all
      have hTO := fun W (hb : Below wr.heap.size wr W) => To_any Cha.limA (.slice (some ⟨g0, 0, none⟩) 1 1) (.slice Av 8 cv) (by decide) (0, (k : Int)) (0, (k : Int) + 3) W _ (hAC.on hb).all
      have hLE := fun W (hb : Below wr.heap.size wr W) => Least_any Cha.limA (.slice (some ⟨g0, 0, none⟩) 1 1) (.slice Av 8 cv) (by decide) (0, (k : Int)) (0, (k : Int) + 3) W _ (hAC.on hb).all
      rw [har] at hAL
      rw [htr] at hTO
      rw [hlr] at hLE
      dsimp only [Option.getD, Option.isSome] at hAL hTO hLE
      have HAL : Hid (∀ W, Below wr.heap.size wr W → Calls Tryd.prog 29 #[.agg #[.slice (some ⟨g0, 0, none⟩) 1 1, .slice Av 8 cv, .int .u64 255], .agg #[.int .i64 0, .int .i64 k]] W fun e w' => ∃ A c, e = .returned (.tuple #[.slice A 0 c, .int .i64 4]) ∧ Below W.heap.size W w') := Lib.hid fun W hb => (hAL W hb).mono fun e w' ⟨v, q1, q2, q3⟩ => by
        obtain ⟨A, c, rfl, -⟩ := q2.sl (F := fun _ => True) (by simp) fun _ _ _ _ => trivial
        exact ⟨A, c, q1, q3⟩
      have HTO : Hid (∀ W, Below wr.heap.size wr W → Calls Tryd.prog 30 #[.agg #[.slice (some ⟨g0, 0, none⟩) 1 1, .slice Av 8 cv, .int .u64 255], .agg #[.int .i64 0, .int .i64 k], .agg #[.int .i64 0, .int .i64 ((k : Int) + 3)]] W fun e w' => ∃ A c, e = .returned (.tuple #[.slice A 0 c, .int .i64 4]) ∧ Below W.heap.size W w') := Lib.hid fun W hb => (hTO W hb).mono fun e w' ⟨v, q1, q2, q3⟩ => by
        obtain ⟨A, c, rfl, -⟩ := q2
        exact ⟨A, c, q1, q3⟩
      have HLE : Hid (∀ W, Below wr.heap.size wr W → Calls Tryd.prog 31 #[.agg #[.slice (some ⟨g0, 0, none⟩) 1 1, .slice Av 8 cv, .int .u64 255], .agg #[.int .i64 0, .int .i64 k], .agg #[.int .i64 0, .int .i64 ((k : Int) + 3)]] W fun e w' => ∃ ad c, e = .returned (.tuple #[.agg #[.slice (some ad) 1 c, .int .i64 0, .int .i64 ((k : Int) + 3)], .bool true, .int .i64 0]) ∧ (w'.cell? (ad.add 0) = some (.int .i64 2) ∧ ad.block < w'.heap.size) ∧ Below W.heap.size W w') := Lib.hid fun W hb => (hLE W hb).mono fun e w' ⟨v, q1, q2, q3⟩ => by
        obtain ⟨A, c, rfl, -, -, hat⟩ := SlI.open q2
        obtain ⟨ad, rfl, h1, h2⟩ := hat 0 (by simp)
        exact ⟨ad, c, q1, ⟨h2, h1⟩, q3⟩
      have HKA := Lib.hid (fun W (hb : Below wr.heap.size wr W) => (show W.cell? ⟨ab, 0, none⟩ = some (.slice (some ⟨g0, 0, none⟩) 1 1) ∧ W.cell? ⟨ab, 1, none⟩ = some (.slice Av 8 cv) ∧ W.cell? ⟨ab, 2, none⟩ = some (.int .u64 255) from ⟨(Bc hb HA.out.lt).trans (HA.out.cell 0), (Bc hb HA.out.lt).trans (HA.out.cell 1), (Bc hb HA.out.lt).trans (HA.out.cell 2)⟩))
      have hd8 : decide (((8 : Nat) : Int) < 8) = false := by decide
      clear hsl hsd hAC hbg hle har htr hlr hAL hTO hLE hc8 hl8 hat8 hll hc0 hc1 hc2
      go_upto_region 9 with fail
      obtain ⟨w4, hw4⟩ : ∃ w4 : World, wr.alloc (.cells #[.int .i64 0, .int .i64 k] 36) = w4 := ⟨_, rfl⟩
      obtain ⟨kb, hkb⟩ : ∃ kb, wr.heap.size = kb := ⟨_, rfl⟩
      have KB : Blk w4 kb 36 #[.int .i64 0, .int .i64 k] := by rw [← hw4, ← hkb]; exact Blk.new _ _ _
      have HB4 : Hid (Below wr.heap.size wr w4) := Lib.hid (by rw [← hw4]; exact Ba (B0 wr) _)
      have HKB := Lib.hid (fun W (hb : Below w4.heap.size w4 W) => (show (W.cell? ⟨ab, 0, none⟩ = some (.slice (some ⟨g0, 0, none⟩) 1 1) ∧ W.cell? ⟨ab, 1, none⟩ = some (.slice Av 8 cv) ∧ W.cell? ⟨ab, 2, none⟩ = some (.int .u64 255)) ∧ W.cell? ⟨kb, 0, none⟩ = some (.int .i64 0) ∧ W.cell? ⟨kb, 1, none⟩ = some (.int .i64 k) from ⟨HKA.out W (Bt HB4.out hb), (Bc hb KB.lt).trans (KB.cell 0), (Bc hb KB.lt).trans (KB.cell 1)⟩))
      try rw [hw4]
      try rw [hkb]
      clear hw4 hkb KB
      obtain ⟨⟨x0, x1, x2⟩, x3, x4⟩ := HKB.out w4 (B0 w4)
      have e3 : IntKind.i64.wrap ((k : Int) + 3) = (k : Int) + 3 := IntWalk.i64_in _ (by omega)
      go_wp2_with (first
        | (go_at_call 29; (with_reducible refine ((HAL.out _ HB4.out).mono ?_)); rintro e w5 ⟨A5, c5, rfl, hb5⟩; have HB5 := Lib.hid hb5; clear x0 x1 x2 x3 x4; obtain ⟨⟨x0, x1, x2⟩, x3, x4⟩ := HKB.out w5 hb5; clear hb5)
        | (go_at_call 31; (with_reducible refine ((HLE.out _ (Bt HB4.out HB5.out)).mono ?_)); rintro e w6 ⟨ad6, c6, rfl, ⟨hc6, hl6⟩, hb6⟩; have HB6 := Lib.hid (Ba (Bt HB5.out hb6) (.cells #[.slice (some ad6) 1 c6, .int .i64 0, .int .i64 ((k : Int) + 3)] 56)); have HC6 := Lib.hid (show ∀ W, Below (w6.alloc (.cells #[.slice (some ad6) 1 c6, .int .i64 0, .int .i64 ((k : Int) + 3)] 56)).heap.size (w6.alloc (.cells #[.slice (some ad6) 1 c6, .int .i64 0, .int .i64 ((k : Int) + 3)] 56)) W → W.cell? (ad6.add 0) = some (.int .i64 2) ∧ W.cell? ⟨w6.heap.size, 0, none⟩ = some (.slice (some ad6) 1 c6) from fun W hb => ⟨((Bt (Ba (B0 w6) _) hb).cell (p := ad6.add 0) (by rw [block_of_add]; exact hl6)).trans hc6, (Bc hb (by simp)).trans (by simp [go_sem])⟩); clear x0 x1 x2 x3 x4; obtain ⟨⟨x0, x1, x2⟩, x3, x4⟩ := HKB.out _ HB6.out; clear hb6 hc6 hl6)
        | (go_at_call 30; (with_reducible refine ((HTO.out _ (Bt HB4.out HB6.out)).mono ?_)); rintro e w7 ⟨A7, c7, rfl, hb7⟩; have HB7 := Lib.hid (Bt HB6.out hb7); obtain ⟨y0, y1⟩ := HC6.out w7 hb7; rw [addZ] at y0; clear hb7 x0 x1 x2 x3 x4))
      go_ret
      refine ⟨by simp, Bt HB2.out ?_⟩
      have h := HB.out
      rw [← HG0.out] at h
      exact Bt h (Bt HB4.out HB7.out)
end Go.Proofs.YtahlfndlkfoikaaDoor
