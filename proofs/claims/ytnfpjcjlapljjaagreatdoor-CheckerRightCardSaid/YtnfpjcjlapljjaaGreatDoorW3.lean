/- Walks: the checker's evaluate. Walks: slices.Equal at words, the checker's Same. -/
import Derived.Test.YtnfpjcjlapljjaaGreatDoorW2
import Derived.Test.YtnfpjcjlapljjaaGreatDoorBase
import Derived.Deep.RegionHeld3
import Derived.BigQuiet
namespace Go.Proofs.YtnfpjcjlapljjaaGreatDoor
open Go Go.RowKit

def wordV (x : Nat) : Value := .int .u64 (x : Int)
def words (l : List Nat) : List Value := l.map wordV
/-- A cell that is a word. -/
def WordC (_ : World) (cs : List Value) (x : Nat) : Prop := cs = [wordV x]
abbrev SlW (F : Nat → Prop) (w : World) (v : Value) (l : List Nat) : Prop := Sl F 1 WordC w v l
theorem SlW.open {F : Nat → Prop} {w : World} {v : Value} {l : List Nat} (h : SlW F w v l) : ∃ A c, v = .slice A l.length c ∧ l.length ≤ c ∧ l.length ≤ 140737488355328 ∧
    ∀ i (hi : i < l.length), ∃ ad, A = some ad ∧ F ad.block ∧ w.cell? (ad.add i) = some (.int .u64 (l[i] : Nat)) := by
  obtain ⟨A, c, hv, hc, hl, hi⟩ := h
  refine ⟨A, c, hv, hc, hl, fun i hil => ?_⟩
  obtain ⟨ad, cs, hA, hF, hk, hr, hcell⟩ := hi i hil
  unfold WordC at hr
  subst hr
  exact ⟨ad, hA, hF, by simpa [wordV] using hcell.f0 rfl⟩
theorem SlW.keep {F : Nat → Prop} {w w' : World} {v : Value} {l : List Nat} (h : SlW F w v l) (ha : Agree F w w') : SlW F w' v l := Sl.keep h ha fun _ _ hr => hr
theorem words_flat (l : List Nat) : words l = (l.map fun x => [wordV x]).flatten := by
  induction l with
  | nil => rfl
  | cons x l ih => simp only [words, List.map_cons, List.flatten_cons] at *; rw [ih]; rfl
theorem SlW.of_own {w : World} {F : Nat → Prop} {base : Nat} {e : TypeId} {v : Value} {l : List Nat} (h : w.ownsRow base e 1 v l.length (words l)) (hl : l.length ≤ 140737488355328)
    (hF : ∀ b, base ≤ b → b < w.heap.size → v.ownBlock = some b → F b) : SlW F w v l :=
  Sl.of_own (cs := l.map fun x => [wordV x]) h rfl hl (words_flat l) (by simp) (fun i hi => ⟨[wordV l[i]], by simp [hi], rfl, rfl⟩) hF

/-- The cells of the array of evaluate. -/
def arr (at_ : List Nat) (n : Nat) : Array Value := (words (at_ ++ List.replicate (n - at_.length) 0)).toArray
theorem arr_get (at_ : List Nat) (n j : Nat) (h : j < at_.length) : (arr at_ n)[j]? = some (.int .u64 ((at_.getD j 0 : Nat) : Int)) := by
  simp [arr, words, wordV, List.getElem?_append, h, List.getD_eq_getElem?_getD]
theorem arr_set (at_ : List Nat) (n x : Nat) (h : at_.length < n) : (arr at_ n).setIfInBounds at_.length (.int .u64 (x : Int)) = arr (at_ ++ [x]) n := by
  unfold arr
  rw [List.setIfInBounds_toArray]
  congr 1
  unfold words
  rw [show Value.int IntKind.u64 (x : Int) = wordV x from rfl, ← List.map_set]
  congr 1
  rw [List.set_append_right _ _ (Nat.le_refl _), Nat.sub_self]
  rw [show n - at_.length = (n - (at_ ++ [x]).length) + 1 from by simp; omega, List.replicate_succ]
  simp
/-- The cell of the gate at hand holds acc. -/
theorem arr_acc (at_ : List Nat) (n acc x : Nat) (h : at_.length < n) : (arr (at_ ++ [acc]) n).setIfInBounds at_.length (.int .u64 (x : Int)) = arr (at_ ++ [x]) n := by
  unfold arr
  rw [List.setIfInBounds_toArray]
  congr 1
  unfold words
  rw [show Value.int IntKind.u64 (x : Int) = wordV x from rfl, ← List.map_set]
  congr 1
  simp
theorem arr_zero (at_ : List Nat) (n : Nat) (h : at_.length < n) : arr at_ n = arr (at_ ++ [0]) n := by
  unfold arr
  congr 2
  rw [show n - at_.length = (n - (at_ ++ [0]).length) + 1 from by simp; omega, List.replicate_succ]
  simp

theorem info53 : (Tryz.prog.info? 42).map (fun i => (i.zero, i.size, i.bytes)) = some (some (.int .u64 0), 1, 8) := by kernel_rfl
theorem elem54 : ElemN Tryz.prog 41 42 1 8 := ⟨Tryz.underlying41, by
  obtain ⟨i, hi, hz, hs, hb⟩ := info_parts info53
  exact ⟨i, _, hi, hz, hs, hb, rfl⟩⟩

theorem evalW_snoc (values : List Nat) (l : List Gate) (g : Gate) : ∀ at_, evalW values at_ (l ++ [g]) = evalW values at_ l ++ [gateW values (evalW values at_ l) g] := by
  induction l with
  | nil => intro _; rfl
  | cons x r ih => intro _; exact ih _
theorem gatesOk_at (vars : Int) (l : List Gate) : ∀ (i : Nat), gatesOk vars i l = true → ∀ k (hk : k < l.length), gateOk vars (i + k) l[k] = true := by
  induction l with
  | nil => intro _ _ k hk; simp at hk
  | cons g r ih =>
    intro i h k hk
    simp only [gatesOk, Bool.and_eq_true] at h
    cases k with
    | zero => exact h.1
    | succ k =>
      have := ih (i + 1) h.2 k (by simpa using hk)
      rw [show i + (k + 1) = i + 1 + k from by omega]
      exact this

theorem andAll_snoc (at_ : List Nat) (l : List Int) (k : Int) (x : Nat) : andAll at_ (l ++ [k]) x = andAll at_ l x &&& at_.getD k.toNat 0 := by
  induction l generalizing x with
  | nil => rfl
  | cons y r ih => exact ih _
theorem orAll_snoc (at_ : List Nat) (l : List Int) (k : Int) (x : Nat) : orAll at_ (l ++ [k]) x = orAll at_ l x ||| at_.getD k.toNat 0 := by
  induction l generalizing x with
  | nil => rfl
  | cons y r ih => exact ih _
theorem andAll_take (at_ : List Nat) (ins : List Int) (jj : Nat) (h : jj < ins.length) (x : Nat) : andAll at_ (ins.take (jj + 1)) x = andAll at_ (ins.take jj) x &&& at_.getD (ins[jj]).toNat 0 := by
  rw [List.take_succ_eq_append_getElem h, andAll_snoc]
theorem orAll_take (at_ : List Nat) (ins : List Int) (jj : Nat) (h : jj < ins.length) (x : Nat) : orAll at_ (ins.take (jj + 1)) x = orAll at_ (ins.take jj) x ||| at_.getD (ins[jj]).toNat 0 := by
  rw [List.take_succ_eq_append_getElem h, orAll_snoc]
theorem insOk (vars : Int) (kk : Nat) (g : Gate) (h : gateOk vars kk g = true) : ∀ i ∈ g.ins, 0 ≤ i ∧ i ≤ (kk : Int) - 1 := by
  unfold gateOk at h
  rw [Bool.and_eq_true] at h
  have := h.2
  simp only [withinB, List.all_eq_true, Bool.and_eq_true, decide_eq_true_eq] at this
  exact this
theorem andAll_le' (at_ : List Nat) (_ : ∀ x ∈ at_, x ≤ ones) (l : List Int) (x : Nat) (hx : x ≤ ones) : andAll at_ l x ≤ ones := andAll_le at_ l x hx
theorem orAll_le' (at_ : List Nat) (h : ∀ x ∈ at_, x ≤ ones) (l : List Int) (x : Nat) (hx : x ≤ ones) : orAll at_ l x ≤ ones := orAll_le at_ h l x hx
theorem getD_app (a b : List Nat) (j : Nat) (h : j < a.length) : (a ++ b).getD j 0 = a.getD j 0 := by
  rw [List.getD_eq_getElem?_getD, List.getD_eq_getElem?_getD, List.getElem?_append_left h]
theorem evalW_le (values : List Nat) (hv : ∀ x ∈ values, x ≤ ones) : ∀ (l : List Gate) (at_ : List Nat), (∀ x ∈ at_, x ≤ ones) → ∀ x ∈ evalW values at_ l, x ≤ ones := by
  intro l
  induction l with
  | nil => intro _ h; exact h
  | cons g r ih =>
    intro at_ h
    refine ih _ fun y hy => ?_
    rcases List.mem_append.1 hy with hy | hy
    · exact h y hy
    · simp at hy; subst hy; exact gateW_le _ _ hv h g
theorem compl_u64 (x : Nat) (hx : x ≤ ones) : bits .xor .u64 IntKind.u64.max (x : Int) = ((ones - x : Nat) : Int) := by
  rw [ones_eq] at *
  have hm : BitVec.ofInt 64 IntKind.u64.max = BitVec.allOnes 64 := by decide
  show IntKind.u64.wrap ((BitVec.ofInt 64 IntKind.u64.max ^^^ BitVec.ofInt 64 (x : Int)).toNat : Int) = _
  rw [hm, BitVec.allOnes_xor, BitVec.toNat_not, BitVec.ofInt_natCast, BitVec.toNat_ofNat, Nat.mod_eq_of_lt (by omega), IntKind.wrap_u64]
  omega

set_option maxHeartbeats 4000000 in
set_option maxRecDepth 100000 in
theorem evaluate_any (vars : Int) (vg vo vv : Value) (n : Net) (values : List Nat) (hvs : ∀ x ∈ values, x ≤ ones) (w : World) (F : Nat → Prop) (hF : ∀ b, F b → b < w.heap.size) (hg : SlG F w vg n.gates) (ho : SlI F w vo n.outs) (hv : SlW F w vv values)
    (hn : netOk vars n = true) (hvl : vars ≤ values.length) (hob : n.outs.length ≤ 1000000) :
    Calls Tryz.prog 40 #[.agg #[vg, vo], vv] w fun e w' => ∃ v, e = .returned v ∧ SlW (New w.heap.size w'.heap.size) w' v (outsW values n) ∧ Below w.heap.size w w' := by
  obtain ⟨A, c, rfl, hlc, hl, hat⟩ := hg.open
  simp only [netOk, Bool.and_eq_true, decide_eq_true_eq] at hn
  obtain ⟨⟨hlen, hwo⟩, hgo⟩ := hn
  have hgo' := gatesOk_at vars n.gates 0 hgo
  simp only [Nat.zero_add] at hgo'
  have H := Lib.hid hat
  have HG := Lib.hid hgo'
  clear hat hg hgo hgo'
  have hmk := run_make1 elem54.ht info53 rfl (arr [] n.gates.length) n.gates.length (by simp [arr, words, wordV]) (by omega) (by omega)
  go_enter Tryz.func40, Tryz.ntmps40
  go_wp2_with fail
  go_loopg [22] n.gates.length (fun gg s22 wr => ∃ kk : Nat, kk ≤ n.gates.length ∧ n.gates.length - kk ≤ gg ∧ s22 = .int .i64 kk ∧ Aside (Below w.heap.size w wr) ∧ Aside (wr.cell? ⟨w.heap.size, 1, none⟩ = some vo) ∧
      Aside (Blk wr (w.heap.size + 1) 42 (arr (evalW values [] (n.gates.take kk)) n.gates.length)))
  case atStart => exact ⟨0, Nat.zero_le _, by omega, rfl, (Ba (Ba (B0 w) _) _), by simp [Aside], (by have := Blk.new (w.alloc (.cells #[.slice A n.gates.length c, vo] 71)) 42 (arr [] n.gates.length); simpa [Aside, evalW] using this)⟩
  case round =>
    obtain ⟨kk, hkk, hg, rfl, BW, CO, BK⟩ := hrel
    by_cases hlt : kk < n.gates.length
    · obtain ⟨ad, u, rfl, hb, hu, hc⟩ := H.out kk hlt
      have hok := HG.out kk hlt
      have hc' := hc.below BW.out (by rw [block_of_add]; exact hF _ hb)
      have h0 := hc'.f0 rfl
      have h1 := hc'.f1 rfl
      have h2 := hc'.f2 rfl
      have hv' := hv.keep (Agree.below BW.out hF)
      have hstep := evalW_snoc values (n.gates.take kk) n.gates[kk] []
      rw [← List.take_succ_eq_append_getElem hlt] at hstep
      have hatl := evalW_length values [] (n.gates.take kk)
      rw [List.length_take_of_le (by omega)] at hatl
      simp only [List.length_nil, Nat.zero_add] at hatl
      generalize hat0 : evalW values [] (n.gates.take kk) = at_ at hstep hatl BK
      have hsz : w.heap.size + 1 < wr.heap.size := BK.out.lt
      have hck : wr.cell? ⟨w.heap.size + 1, kk, none⟩ = some (.int .u64 0) := by
        rw [BK.out.cell, arr_zero at_ _ (by omega), arr_get _ _ _ (by simp; omega)]
        rw [← hatl]; simp
      have hfk : wr.frozen? ⟨w.heap.size + 1, kk, none⟩ = false := BK.out.frozen kk
      have hnext : ∀ (o : Obj) (x : Int), x = (gateW values at_ n.gates[kk] : Nat) → ∃ kk' : Nat, kk' ≤ n.gates.length ∧ n.gates.length - kk' ≤ n.gates.length - (kk + 1) ∧ Value.int .i64 ((kk : Int) + 1) = .int .i64 kk' ∧ Aside (Below w.heap.size w ((wr.setCell ⟨w.heap.size + 1, kk, none⟩ (.int .u64 x)).alloc o)) ∧
          Aside (((wr.setCell ⟨w.heap.size + 1, kk, none⟩ (.int .u64 x)).alloc o).cell? ⟨w.heap.size, 1, none⟩ = some vo) ∧ Aside (Blk ((wr.setCell ⟨w.heap.size + 1, kk, none⟩ (.int .u64 x)).alloc o) (w.heap.size + 1) 42 (arr (evalW values [] (n.gates.take kk')) n.gates.length)) := by
        rintro o x rfl
        refine ⟨kk + 1, by omega, by omega, by go_num, Ba (Bs BW.out _ (by simp)) _, ?_, ?_⟩
        · have := CO.out
          show _ = _
          rw [World.cell?_alloc_past _ _ _ (by simp; omega), World.cell?_setCell_other _ _ _ _ (fun e => by have := congrArg Addr.block e; simp at this)]; exact this
        · have := (BK.out.set_ kk (.int .u64 ((gateW values at_ n.gates[kk] : Nat) : Int))).alloc o
          subst hatl
          rw [arr_set _ _ _ (by omega), ← hstep] at this
          exact this
      have hle : ∀ j, at_.getD j 0 ≤ ones := fun j => getD_le at_ (by rw [← hat0]; exact evalW_le values hvs _ _ (by simp)) j
      have HL := Lib.hid hle
      have hall : ∀ x ∈ at_, x ≤ ones := by rw [← hat0]; exact evalW_le values hvs _ _ (by simp)
      have HLE := Lib.hid hall
      clear hall
      clear hle
      have HN := Lib.hid hnext
      have HS := Lib.hid hstep
      have HA := Lib.hid hatl
      clear hnext hstep hatl hat0 hc hc' H HG hv
      generalize n.gates[kk] = g at *
      obtain ⟨kd, ar, ins⟩ := g
      have HK := Lib.hid hok
      dsimp only at h0 h1 h2 hu
      obtain ⟨A', c', rfl, hlc', hl', hat'⟩ := hu.open
      have HI := Lib.hid hat'
      clear hu hat' hok hb
      by_cases k1 : kd = 1
      · subst k1
        have hk : 0 ≤ ar ∧ ar ≤ vars - 1 := by
          have := HK.out
          simp only [gateOk, if_true, Bool.and_eq_true, decide_eq_true_eq] at this
          exact this.1.1
        obtain ⟨a, rfl⟩ := Int.eq_ofNat_of_zero_le hk.1
        have hal : a < values.length := by omega
        obtain ⟨Av, cv, rfl, _, _, hatv⟩ := hv'.open
        obtain ⟨adv, rfl, hbv, hcv⟩ := hatv a hal
        have hba : (adv.add a).block < wr.heap.size := by rw [block_of_add]; have := hF _ hbv; omega
        clear hv' hatv hk
        go_wp2
        go_roundg (n.gates.length - (kk + 1))
        case measure => omega
        case rel => exact HN.out _ _ (by simp [gateW, hal])
      · clear hv'
        have k1' : (kd == 1) = false := by simpa using k1
        by_cases k2 : kd = 2
        · subst k2
          have hk : ins.length = 1 ∧ withinB 0 ((kk : Int) - 1) ins = true := by
            have := HK.out
            simp [gateOk, withinB] at this
            simp only [withinB, List.all_eq_true, Bool.and_eq_true, decide_eq_true_eq]
            exact ⟨this.1.2, this.2⟩
          obtain ⟨hl1, hwk⟩ := hk
          match ins, hl1 with
          | [i0], _ =>
          simp only [withinB, List.all_cons, List.all_nil, Bool.and_true, Bool.and_eq_true, decide_eq_true_eq] at hwk
          obtain ⟨j0, rfl⟩ := Int.eq_ofNat_of_zero_le hwk.1
          have hj : j0 < at_.length := by rw [HA.out]; omega
          have hcj : wr.cell? ⟨w.heap.size + 1, j0, none⟩ = some (.int .u64 ((at_.getD j0 0 : Nat) : Int)) := by rw [BK.out.cell, arr_get _ _ _ hj]
          have hjn : (j0 : Int) < n.gates.length := by omega
          obtain ⟨adi, rfl, hbi, hci⟩ := HI.out 0 (by simp)
          have hba : (adi.add 0).block < wr.heap.size := by rw [block_of_add]; have := hF _ hbi; omega
          have hba' : adi.block < wr.heap.size := by have := hF _ hbi; omega
          have hci' : wr.cell? adi = some (.int .i64 j0) := (BW.out.cell (hF _ hbi)).trans (by simpa [Addr.add] using hci)
          clear hci
          have hjx : j0 < n.gates.length := by omega
          generalize hgx : at_.getD j0 0 = x at hcj
          have HX := Lib.hid hgx
          clear hwk hj k1 hgx
          go_wp2
          go_roundg (n.gates.length - (kk + 1))
          case measure => omega
          case rel => exact HN.out _ _ (by rw [compl_u64 x (by rw [← HX.out]; exact HL.out _)]; simp [gateW, ← HX.out])
        · have k2' : (kd == 2) = false := by simpa using k2
          by_cases k3 : kd = 3
          · subst k3
            have hin := insOk vars kk ⟨3, ar, ins⟩ HK.out
            have HIN := Lib.hid hin
            clear hin k1 k2
            obtain ⟨wo, rfl⟩ : ∃ wo : World, wo = wr := ⟨_, rfl⟩
            go_wp2_with fail
            go_loopg [60] ins.length (fun gg s wi => ∃ jj : Nat, jj ≤ ins.length ∧ ins.length - jj ≤ gg ∧ s = .int .i64 jj ∧ Aside (Below w.heap.size w wi) ∧ Aside (wi.cell? ⟨w.heap.size, 1, none⟩ = some vo) ∧
                Aside (Blk wi (w.heap.size + 1) 42 (arr (at_ ++ [andAll at_ (ins.take jj) ones]) n.gates.length)))
            case atStart => exact ⟨0, Nat.zero_le _, by omega, rfl, Ba (Bs BW.out _ (by simp)) _, (by
                have := CO.out
                show _ = _
                rw [World.cell?_alloc_past _ _ _ (by simp; omega), World.cell?_setCell_other _ _ _ _ (fun e => by have := congrArg Addr.block e; simp at this)]; exact this), (by
                have := (BK.out.set_ kk (.int .u64 ((ones : Nat) : Int))).alloc (.cells #[.int .i64 3, .int .i64 ar, .slice A' ins.length c'] 127)
                have hk' : at_.length = kk := HA.out
                subst hk'
                rw [arr_set _ _ _ (by omega)] at this
                exact this)⟩
            case round =>
              obtain ⟨jj, hjj, hgj, rfl, BWi, COi, BKi⟩ := hrel
              by_cases hlj : jj < ins.length
              · obtain ⟨adi, rfl, hbi, hci⟩ := HI.out jj hlj
                obtain ⟨h0', h1'⟩ := HIN.out ins[jj] (List.getElem_mem hlj)
                have hcj := (BWi.out.cell (by rw [block_of_add]; exact hF _ hbi)).trans hci
                have hst := andAll_take at_ ins jj hlj ones
                have hacc : andAll at_ (ins.take jj) ones ≤ ones := andAll_le' at_ HLE.out _ _ (by decide)
                generalize ins[jj] = iv at *
                obtain ⟨j0, rfl⟩ := Int.eq_ofNat_of_zero_le h0'
                have hj0 : j0 < at_.length := by rw [HA.out]; omega
                have hx1 : wr.cell? ⟨w.heap.size + 1, j0, none⟩ = some (.int .u64 ((at_.getD j0 0 : Nat) : Int)) := by
                  rw [BKi.out.cell, arr_get _ _ _ (by simp; omega)]
                  rw [getD_app _ _ _ hj0]
                have hx2 : wr.cell? ⟨w.heap.size + 1, kk, none⟩ = some (.int .u64 ((andAll at_ (ins.take jj) ones : Nat) : Int)) := by
                  rw [BKi.out.cell, arr_get _ _ _ (by simp [HA.out])]
                  rw [← HA.out, List.getD_eq_getElem?_getD, List.getElem?_concat_length]; rfl
                have hfx : wr.frozen? ⟨w.heap.size + 1, kk, none⟩ = false := BKi.out.frozen kk
                have hjn : (j0 : Int) < n.gates.length := by omega
                have hkn : (kk : Int) < n.gates.length := by omega
                have hlx := HL.out j0
                rw [Int.toNat_natCast] at hst
                generalize at_.getD j0 0 = x at *
                generalize andAll at_ (ins.take jj) ones = acc at *
                have HST := Lib.hid hst
                have hbits := u64_and_nat acc x (by unfold ones at *; omega) (by unfold ones at *; omega)
                have HB := Lib.hid hbits
                clear hci hj0 hst hacc hlx hbits
                go_wp2_with fail
                go_region
                go_wp2
                go_roundg (ins.length - (jj + 1))
                case measure => omega
                case rel =>
                  rw [HB.out]
                  refine ⟨jj + 1, by omega, by omega, by go_num, (Bs BWi.out _ (by simp)).drew, ?_, ?_⟩
                  · have := COi.out
                    show World.cell? (World.setCell _ _ _) _ = _
                    rw [World.cell?_setCell_other _ _ _ _ (fun e => by have := congrArg Addr.block e; simp at this)]; exact this
                  · have := (BKi.out.set_ kk (.int .u64 ((acc &&& x : Nat) : Int))).drew
                    have hk' : at_.length = kk := HA.out
                    subst hk'
                    rw [arr_acc _ _ _ _ (by omega)] at this
                    show Blk _ _ _ _
                    rw [HST.out]
                    exact this
              · have : jj = ins.length := by omega
                subst this
                clear HI
                go_wp2
                go_roundg (n.gates.length - (kk + 1))
                case measure => omega
                case rel => exact ⟨kk + 1, by omega, by omega, by go_num, BWi.out, COi.out, by have := BKi.out; rw [List.take_length] at this; show Blk _ _ _ _; rw [HS.out]; exact this⟩
          · have k3' : (kd == 3) = false := by simpa using k3
            by_cases k4 : kd = 4
            · subst k4
              have hin := insOk vars kk ⟨4, ar, ins⟩ HK.out
              have HIN := Lib.hid hin
              clear hin k1 k2 k3
              obtain ⟨wo, rfl⟩ : ∃ wo : World, wo = wr := ⟨_, rfl⟩
              go_wp2_with fail
              go_loopg [80] ins.length (fun gg s wi => ∃ jj : Nat, jj ≤ ins.length ∧ ins.length - jj ≤ gg ∧ s = .int .i64 jj ∧ Aside (Below w.heap.size w wi) ∧ Aside (wi.cell? ⟨w.heap.size, 1, none⟩ = some vo) ∧
                  Aside (Blk wi (w.heap.size + 1) 42 (arr (at_ ++ [orAll at_ (ins.take jj) 0]) n.gates.length)))
              case atStart => exact ⟨0, Nat.zero_le _, by omega, rfl, Ba BW.out _, (by
                  have := CO.out
                  show _ = _
                  rw [World.cell?_alloc_past _ _ _ (show w.heap.size < wo.heap.size by omega)]; exact this), (by
                  have := BK.out.alloc (.cells #[.int .i64 4, .int .i64 ar, .slice A' ins.length c'] 127)
                  rw [arr_zero _ _ (by rw [HA.out]; omega)] at this
                  exact this)⟩
              case round =>
                obtain ⟨jj, hjj, hgj, rfl, BWi, COi, BKi⟩ := hrel
                by_cases hlj : jj < ins.length
                · obtain ⟨adi, rfl, hbi, hci⟩ := HI.out jj hlj
                  obtain ⟨h0', h1'⟩ := HIN.out ins[jj] (List.getElem_mem hlj)
                  have hcj := (BWi.out.cell (by rw [block_of_add]; exact hF _ hbi)).trans hci
                  have hst := orAll_take at_ ins jj hlj 0
                  have hacc : orAll at_ (ins.take jj) 0 ≤ ones := orAll_le' at_ HLE.out _ _ (by decide)
                  generalize ins[jj] = iv at *
                  obtain ⟨j0, rfl⟩ := Int.eq_ofNat_of_zero_le h0'
                  have hj0 : j0 < at_.length := by rw [HA.out]; omega
                  have hx1 : wr.cell? ⟨w.heap.size + 1, j0, none⟩ = some (.int .u64 ((at_.getD j0 0 : Nat) : Int)) := by
                    rw [BKi.out.cell, arr_get _ _ _ (by simp; omega)]
                    rw [getD_app _ _ _ hj0]
                  have hx2 : wr.cell? ⟨w.heap.size + 1, kk, none⟩ = some (.int .u64 ((orAll at_ (ins.take jj) 0 : Nat) : Int)) := by
                    rw [BKi.out.cell, arr_get _ _ _ (by simp [HA.out])]
                    rw [← HA.out, List.getD_eq_getElem?_getD, List.getElem?_concat_length]; rfl
                  have hfx : wr.frozen? ⟨w.heap.size + 1, kk, none⟩ = false := BKi.out.frozen kk
                  have hjn : (j0 : Int) < n.gates.length := by omega
                  have hkn : (kk : Int) < n.gates.length := by omega
                  have hlx := HL.out j0
                  rw [Int.toNat_natCast] at hst
                  generalize at_.getD j0 0 = x at *
                  generalize orAll at_ (ins.take jj) 0 = acc at *
                  have HST := Lib.hid hst
                  have hbits := u64_or_nat acc x (by unfold ones at *; omega) (by unfold ones at *; omega)
                  have HB := Lib.hid hbits
                  clear hci hj0 hst hacc hlx hbits
                  go_wp2_with fail
                  go_region
                  go_wp2
                  go_roundg (ins.length - (jj + 1))
                  case measure => omega
                  case rel =>
                    rw [HB.out]
                    refine ⟨jj + 1, by omega, by omega, by go_num, (Bs BWi.out _ (by simp)).drew, ?_, ?_⟩
                    · have := COi.out
                      show World.cell? (World.setCell _ _ _) _ = _
                      rw [World.cell?_setCell_other _ _ _ _ (fun e => by have := congrArg Addr.block e; simp at this)]; exact this
                    · have := (BKi.out.set_ kk (.int .u64 ((acc ||| x : Nat) : Int))).drew
                      have hk' : at_.length = kk := HA.out
                      subst hk'
                      rw [arr_acc _ _ _ _ (by omega)] at this
                      show Blk _ _ _ _
                      rw [HST.out]
                      exact this
                · have : jj = ins.length := by omega
                  subst this
                  clear HI
                  go_wp2
                  go_roundg (n.gates.length - (kk + 1))
                  case measure => omega
                  case rel => exact ⟨kk + 1, by omega, by omega, by go_num, BWi.out, COi.out, by have := BKi.out; rw [List.take_length] at this; show Blk _ _ _ _; rw [HS.out]; exact this⟩
            · have k4' : (kd == 4) = false := by simpa using k4
              by_cases k6 : kd = 6
              · subst k6
                clear k1 k2 k3 k4 HI
                go_wp2
                go_roundg (n.gates.length - (kk + 1))
                case measure => omega
                case rel => exact HN.out _ _ (by simp [gateW]; rfl)
              · have k6' : (kd == 6) = false := by simpa using k6
                have h0' : gateW values at_ ⟨kd, ar, ins⟩ = 0 := by simp [gateW, k1, k2, k3, k4, k6]
                have H0 := Lib.hid h0'
                clear k1 k2 k3 k4 k6 HI h0'
                go_wp2
                go_roundg (n.gates.length - (kk + 1))
                case measure => omega
                case rel => exact ⟨kk + 1, by omega, by omega, by go_num, Ba BW.out _, (by
                    have := CO.out
                    show _ = _
                    rw [World.cell?_alloc_past _ _ _ (show w.heap.size < wr.heap.size by omega)]; exact this), (by
                    have := BK.out.alloc (.cells #[.int .i64 kd, .int .i64 ar, .slice A' ins.length c'] 127)
                    rw [arr_zero _ _ (by rw [HA.out]; omega)] at this
                    show Blk _ _ _ _
                    rw [HS.out, H0.out]
                    exact this)⟩

    · have : kk = n.gates.length := by omega
      subst this
      rw [List.take_length] at BK
      have hatl := evalW_length values [] n.gates
      generalize hat0 : evalW values [] n.gates = at_ at hatl BK
      have HO : ∀ W : World, Below w.heap.size w W → SlI F W vo n.outs := fun W hb => ho.keep (Agree.below hb hF)
      obtain ⟨Ao, co, rfl, hlo1, hlo2, hao⟩ := ho.open
      have HAO := Lib.hid hao
      have hwo' : ∀ k ∈ n.outs, 0 ≤ k ∧ k < (n.gates.length : Int) := by
        intro k hk
        simp only [withinB, List.all_eq_true, Bool.and_eq_true, decide_eq_true_eq] at hwo
        have := hwo k hk
        omega
      have HWO := Lib.hid hwo'
      simp only [List.length_nil, Nat.zero_add] at hatl
      have HA := Lib.hid hatl
      have CO' := CO.out
      clear H HG hao hwo' hatl HO hwo ho
      obtain ⟨wo, rfl⟩ : ∃ wo : World, wo = wr := ⟨_, rfl⟩
      go_wp2_with fail
      go_loopg [12, 104] n.outs.length (fun gg v12 s wi => ∃ kk : Nat, kk ≤ n.outs.length ∧ n.outs.length - kk ≤ gg ∧ s = .int .i64 kk ∧ Aside (Below w.heap.size w wi) ∧ Aside (Blk wi (w.heap.size + 1) 42 (arr at_ n.gates.length)) ∧
        Aside (wi.ownsRow (w.heap.size + 2) 42 1 v12 kk (words ((n.outs.take kk).map fun k => at_.getD k.toNat 0))))
      case atStart => exact ⟨0, Nat.zero_le _, by omega, rfl, BW.out, BK.out, World.ownsRow_nil _ _ _ _⟩
      case round =>
        obtain ⟨kk, hkk, hg, rfl, BWi, BKi, OW⟩ := hrel
        by_cases hlt : kk < n.outs.length
        · obtain ⟨ad, rfl, hb, hc⟩ := HAO.out kk hlt
          obtain ⟨h0, h1⟩ := HWO.out n.outs[kk] (List.getElem_mem hlt)
          have hc' := (BWi.out.cell (by rw [block_of_add]; exact hF _ hb)).trans hc
          have hwords : words ((n.outs.take (kk + 1)).map fun k => at_.getD k.toNat 0) = words ((n.outs.take kk).map fun k => at_.getD k.toNat 0) ++ [.int .u64 ((at_.getD (n.outs[kk]).toNat 0 : Nat) : Int)] := by
            rw [List.take_succ_eq_append_getElem hlt, List.map_append]; simp [words, wordV]
          generalize n.outs[kk] = ov at *
          obtain ⟨j0, rfl⟩ := Int.eq_ofNat_of_zero_le h0
          have hj0 : j0 < at_.length := by rw [HA.out]; omega
          have hx1 : wr.cell? ⟨w.heap.size + 1, j0, none⟩ = some (.int .u64 ((at_.getD j0 0 : Nat) : Int)) := by rw [BKi.out.cell, arr_get _ _ _ hj0]
          rw [Int.toNat_natCast] at hwords
          have hsz : w.heap.size + 1 < wr.heap.size := BKi.out.lt
          have HWD := Lib.hid hwords
          generalize at_.getD j0 0 = x at *
          clear hc hj0 hwords
          go_wp2_with (at_builtin; refine wpList_app1 elem54 rfl _ _ rfl (w.heap.size + 2) _ kk _ rfl (OW.out.alloc _) wr.heap.size (.int .u64 (x : Int)) rfl (by simp) rfl (by omega) (by omega) (by simp; omega) ?_; intro v' w1 hown1 hgrow1 hat1)
          go_roundg (n.outs.length - (kk + 1))
          case measure => omega
          case rel =>
            refine ⟨kk + 1, by omega, by omega, by go_num, Bg (Ba BWi.out _) (OW.out.alloc _) (by omega) hgrow1, ?_, by show World.ownsRow _ _ _ _ _ _ _; rw [HWD.out]; exact hown1⟩
            exact (BKi.out.alloc _).grown hgrow1 (fun e => by have := (OW.out.lt _ e.symm).1; omega)
        · have : kk = n.outs.length := by omega
          subst this
          rw [List.take_length] at OW
          go_wp2
          go_ret
          refine ⟨_, rfl, ?_, BWi.out⟩
          have hout : outsW values n = n.outs.map fun k => at_.getD k.toNat 0 := by unfold outsW; rw [hat0]
          rw [hout]
          refine SlW.of_own (base := w.heap.size + 2) (e := 42) ?_ (by simp; omega) (fun b h1 h2 _ => ⟨by omega, h2⟩)
          simpa using OW.out
end Go.Proofs.YtnfpjcjlapljjaaGreatDoor
namespace Go.Proofs.YtnfpjcjlapljjaaGreatDoor
open Go Go.RowKit

theorem eq_drop (a b : List Nat) (k : Nat) (ha : k < a.length) (hb : k < b.length) : decide (a.drop k = b.drop k) = (decide (a[k] = b[k]) && decide (a.drop (k + 1) = b.drop (k + 1))) := by
  have e1 := List.drop_eq_getElem_cons ha
  have e2 := List.drop_eq_getElem_cons hb
  rw [e1, e2]
  generalize a[k] = x
  generalize b[k] = y
  by_cases h : x = y <;> simp [h]

set_option maxHeartbeats 1000000 in
theorem equal_any (va vb : Value) (a b : List Nat) (w : World) (F G : Nat → Prop) (hF : ∀ b, F b → b < w.heap.size) (hG : ∀ b, G b → b < w.heap.size) (ha : SlW F w va a) (hb : SlW G w vb b) :
    Calls Tryz.prog 39 #[va, vb] w fun e w' => e = .returned (.bool (decide (a = b))) ∧ Below w.heap.size w w' := by
  obtain ⟨A, c, rfl, _, hla, hca⟩ := ha.open
  obtain ⟨B, d, rfl, _, hlb, hcb⟩ := hb.open
  clear ha hb
  by_cases hl : a.length = b.length
  · have hl' : ((a.length : Int) != b.length) = false := by simp [hl]
    have HL := Lib.hid hl
    clear hl
    go_enter Tryz.func39, Tryz.ntmps39
    go_wp2
    go_loopg [13] a.length (fun gg s wr => ∃ kk : Nat, kk ≤ a.length ∧ a.length - kk ≤ gg ∧ s = .int .i64 kk ∧ Aside (Below w.heap.size w wr) ∧ Aside (decide (a = b) = decide (a.drop kk = b.drop kk)))
    case atStart => exact ⟨0, Nat.zero_le _, by omega, rfl, B0 w, rfl⟩
    case round =>
      obtain ⟨kk, hkk, hg, rfl, BW, A1⟩ := hrel
      by_cases hlt : kk < a.length
      · have hltb : kk < b.length := by have := HL.out; omega
        obtain ⟨ad, rfl, hb1, hc1⟩ := hca kk hlt
        obtain ⟨bd, rfl, hb2, hc2⟩ := hcb kk hltb
        have hst := eq_drop a b kk hlt hltb
        have h1 := (BW.out.cell (by rw [block_of_add]; exact hF _ hb1)).trans hc1
        have h2 := (BW.out.cell (by rw [block_of_add]; exact hG _ hb2)).trans hc2
        have i1 : (kk : Int) < a.length := by omega
        have i2 : (kk : Int) < b.length := by omega
        generalize a[kk] = x at *
        generalize b[kk] = y at *
        have HS := Lib.hid hst
        clear hca hcb hst hc1 hc2
        by_cases hxy : x = y
        · subst hxy
          go_wp2_with fail
          go_quiet (fail)
          go_wp2
          go_roundg (a.length - (kk + 1))
          case measure => omega
          case rel => exact ⟨kk + 1, by omega, by omega, by go_num, below_drewN BW.out _, A1.out.trans (by rw [HS.out]; simp)⟩
        · have hxy' : ((x : Int) != (y : Int)) = true := by simp; omega
          have hfin : decide (a = b) = false := by rw [A1.out, HS.out, decide_eq_false hxy]; rfl
          have HF := Lib.hid hfin
          clear hfin hxy
          go_wp2_with fail
          go_quiet (fail)
          go_wp2
          go_ret
          exact ⟨by rw [HF.out]; rfl, below_drewN BW.out _⟩
      · have : kk = a.length := by omega
        subst this
        clear hca hcb
        go_wp2
        go_ret
        exact ⟨by rw [A1.out, List.drop_length, HL.out, List.drop_length]; rfl, BW.out⟩
  · have hl' : ((a.length : Int) != b.length) = true := by simp; omega
    have hne : decide (a = b) = false := decide_eq_false fun h => hl (by rw [h])
    have HN := Lib.hid hne
    clear hne hl hca hcb
    go_enter Tryz.func39, Tryz.ntmps39
    go_wp2
    go_ret
    exact ⟨by rw [HN.out]; rfl, B0 w⟩
end Go.Proofs.YtnfpjcjlapljjaaGreatDoor
