/- Walks: the statement's values of gates. -/
import Derived.Test.YtbcbkllahnahnaaW5
import Derived.Test.YtbcbkllahnahnaaW6a
import Derived.BigQuiet
namespace Go.Proofs.Ytbcbkllahnahnaa
open Go Go.RowKit

def BoolC (_ : World) (cs : List Value) (x : Bool) : Prop := cs = [.bool x]
abbrev SlBo (F : Nat → Prop) (w : World) (v : Value) (l : List Bool) : Prop := Sl F 1 BoolC w v l
theorem SlBo.keep {F : Nat → Prop} {w w' : World} {v : Value} {l : List Bool} (h : SlBo F w v l) (ha : Agree F w w') : SlBo F w' v l := Sl.keep h ha fun _ _ hr => hr
def boolsV (l : List Bool) : List Value := l.map Value.bool
theorem boolsV_flat (l : List Bool) : boolsV l = (l.map fun x => [Value.bool x]).flatten := by
  induction l with
  | nil => rfl
  | cons x l ih => simp only [boolsV, List.map_cons, List.flatten_cons] at *; rw [ih]; rfl
theorem SlBo.of_own {w : World} {F : Nat → Prop} {base : Nat} {e : TypeId} {v : Value} {l : List Bool} (h : w.ownsRow base e 1 v l.length (boolsV l)) (hl : l.length ≤ 140737488355328)
    (hF : ∀ b, base ≤ b → b < w.heap.size → v.ownBlock = some b → F b) : SlBo F w v l :=
  Sl.of_own (cs := l.map fun x => [.bool x]) h rfl hl (boolsV_flat l) (by simp) (fun i hi => ⟨[.bool l[i]], by simp [hi], rfl, rfl⟩) hF
theorem SlBo.open {F : Nat → Prop} {w : World} {v : Value} {l : List Bool} (h : SlBo F w v l) : ∃ A c, v = .slice A l.length c ∧ l.length ≤ c ∧ l.length ≤ 140737488355328 ∧
    ∀ i (hi : i < l.length), ∃ ad, A = some ad ∧ F ad.block ∧ w.cell? (ad.add i) = some (.bool l[i]) := by
  obtain ⟨A, c, hv, hc, hl, hi⟩ := h
  refine ⟨A, c, hv, hc, hl, fun i hil => ?_⟩
  obtain ⟨ad, cs, hA, hF, hk, hr, hcell⟩ := hi i hil
  unfold BoolC at hr
  subst hr
  exact ⟨ad, hA, hF, by simpa using hcell.f0 rfl⟩
theorem evalB_snoc (bits : Nat) (l : List Gate) (g : Gate) : ∀ out, evalB bits out (l ++ [g]) = evalB bits out l ++ [gateB bits (evalB bits out l) g] := by
  induction l with
  | nil => intro _; rfl
  | cons x r ih => intro _; exact ih _
theorem bit_at : ∀ b : Nat, b < 16 → ∀ a : Nat, a < 4 → (Go.bits .and .i64 ((b : Int) / 2 ^ a) 1 == 1) = b.testBit a := by
  have h : ∀ b < 16, ∀ a < 4, (Go.bits .and .i64 (((b : Nat) : Int) / 2 ^ (a : Nat)) 1 == 1) = Nat.testBit b a := by decide +kernel
  exact h
theorem info4 : (Try.prog.info? 4).map (fun i => (i.zero, i.size, i.bytes)) = some (some (.bool false), 1, 1) := by kernel_rfl
theorem elem34 : ElemN Try.prog 34 4 1 1 := ⟨Try.underlying34, by
  obtain ⟨i, hi, hz, hs, hb⟩ := info_parts info4
  exact ⟨i, _, hi, hz, hs, hb, rfl⟩⟩
theorem Below.drewNs {B : Nat} {a w : World} (h : Below B a w) (n : Nat) : Below B a (w.drewN n) := ⟨h.os, h.tape, h.output, h.size, h.block⟩
theorem andB_snoc (out : List Bool) (l : List Int) (i : Int) : ∀ v, andB out (l ++ [i]) v = (if out.getD i.toNat false = false then false else andB out l v) := by
  induction l with
  | nil => intro v; rfl
  | cons x r ih => intro v; exact ih _
theorem orB_snoc (out : List Bool) (l : List Int) (i : Int) : ∀ v, orB out (l ++ [i]) v = (if out.getD i.toNat false = true then true else orB out l v) := by
  induction l with
  | nil => intro v; rfl
  | cons x r ih => intro v; exact ih _
theorem andB_take (out : List Bool) (ins : List Int) (jj : Nat) (h : jj < ins.length) (v : Bool) : andB out (ins.take (jj + 1)) v = (if out.getD (ins[jj]).toNat false = false then false else andB out (ins.take jj) v) := by
  rw [List.take_succ_eq_append_getElem h, andB_snoc]
theorem orB_take (out : List Bool) (ins : List Int) (jj : Nat) (h : jj < ins.length) (v : Bool) : orB out (ins.take (jj + 1)) v = (if out.getD (ins[jj]).toNat false = true then true else orB out (ins.take jj) v) := by
  rw [List.take_succ_eq_append_getElem h, orB_snoc]
theorem two_in (vars : Int) (i : Nat) (ar : Int) (ins : List Int) (h : gateOk vars i ⟨2, ar, ins⟩ = true) : ∃ k : Nat, ins = [(k : Int)] ∧ k < i := by
  have h1 := insOk vars i _ h
  simp [gateOk] at h
  obtain ⟨⟨_, h2⟩, _⟩ := h
  match ins, h2 with
  | [x], _ =>
  have := h1 x (by simp)
  obtain ⟨k, rfl⟩ := Int.eq_ofNat_of_zero_le this.1
  exact ⟨k, rfl, by omega⟩
theorem kind_of (vars : Int) (i : Nat) (kd ar : Int) (ins : List Int) (h : gateOk vars i ⟨kd, ar, ins⟩ = true) : kd = 1 ∨ kd = 2 ∨ kd = 3 ∨ kd = 4 ∨ kd = 5 ∨ kd = 6 := by
  by_cases h1 : kd = 1
  · exact .inl h1
  by_cases h2 : kd = 2
  · exact .inr (.inl h2)
  by_cases h3 : kd = 3
  · exact .inr (.inr (.inl h3))
  by_cases h4 : kd = 4
  · exact .inr (.inr (.inr (.inl h4)))
  by_cases h5 : kd = 5
  · exact .inr (.inr (.inr (.inr (.inl h5))))
  by_cases h6 : kd = 6
  · exact .inr (.inr (.inr (.inr (.inr h6))))
  simp [gateOk, h1, h2, h3, h4, h5, h6] at h

/-- After kk rounds. -/
def ValInv (b : Nat) (gates : List Gate) (w : World) (kk : Nat) (v5 : Value) (wr : World) : Prop :=
  Below w.heap.size w wr ∧ w.heap.size + 1 ≤ wr.heap.size ∧ wr.ownsRow (w.heap.size + 1) 4 1 v5 kk (boolsV (evalB b [] (gates.take kk)))
theorem val_next {b : Nat} {gates : List Gate} {w wr w0 w1 : World} {kk : Nat} {v5 v' : Value} {x : Bool} (h : ValInv b gates w kk v5 wr) (hb : Below wr.heap.size wr w0)
    (hown : w1.ownsRow (w.heap.size + 1) 4 1 v' (kk + 1) (boolsV (evalB b [] (gates.take kk)) ++ [.bool x])) (hg : w0.grownBy w1 v5.ownBlock)
    (hx : evalB b [] (gates.take (kk + 1)) = evalB b [] (gates.take kk) ++ [x]) : ValInv b gates w (kk + 1) v' w1 := by
  obtain ⟨h1, h2, h3⟩ := h
  have h3' := own_below hb h3
  refine ⟨Bg (Bt h1 hb) h3' (by omega) hg, by have := hb.size; have := hg.size; omega, ?_⟩
  rw [hx]
  simpa [boolsV] using hown
/-- What has been computed, as cells. -/
theorem val_cells {b : Nat} {gates : List Gate} {w wr : World} {kk : Nat} {v5 : Value} (h : ValInv b gates w kk v5 wr) (hk : kk ≤ gates.length) (hl : gates.length ≤ 1000) :
    ∃ A c, v5 = .slice A kk c ∧ kk ≤ c ∧ ∀ j, j < kk → ∃ ad, A = some ad ∧ ad.block < wr.heap.size ∧ wr.cell? (ad.add j) = some (.bool ((evalB b [] (gates.take kk)).getD j false)) := by
  have hlen : (evalB b [] (gates.take kk)).length = kk := by rw [evalB_length]; simp; omega
  have h3 := h.2.2
  have hs : SlBo (fun x => x < wr.heap.size) wr v5 (evalB b [] (gates.take kk)) := SlBo.of_own (by rw [hlen]; exact h3) (by omega) fun _ _ q _ => q
  obtain ⟨A, c, hv, hc, _, hi⟩ := hs.open
  rw [hlen] at hv hc
  refine ⟨A, c, hv, hc, fun j hj => ?_⟩
  obtain ⟨ad, hA, hF, hcell⟩ := hi j (by omega)
  exact ⟨ad, hA, hF, by rw [hcell, List.getD_eq_getElem?_getD, List.getElem?_eq_getElem (by omega)]; rfl⟩

set_option maxHeartbeats 4000000 in
set_option maxRecDepth 100000 in
theorem values_any (b : Nat) (hb16 : b < 16) (vg vo : Value) (n : Net) (w : World) (F : Nat → Prop) (hF : ∀ b, F b → b < w.heap.size) (hg : SlG F w vg n.gates) (hn : gatesOk 4 0 n.gates = true) (hl : n.gates.length ≤ 1000) :
    Calls Try.prog 6 #[.agg #[vg, vo], .int .i64 b] w fun e w' => ∃ v, e = .returned v ∧ SlBo (New w.heap.size w'.heap.size) w' v (evalB b [] n.gates) ∧ Below w.heap.size w w' := by
  obtain ⟨A, c, rfl, hlc, hll, hat⟩ := hg.open
  have hgo' := gatesOk_at 4 n.gates 0 hn
  simp only [Nat.zero_add] at hgo'
  have H := Lib.hid hat
  have HG := Lib.hid hgo'
  clear hat hg hn hgo' hlc hll
  go_enter Try.func6, Try.ntmps6
  go_wp2_with fail
  go_loopg [5, 14] n.gates.length (fun gg v5 s wr => ∃ kk : Nat, kk ≤ n.gates.length ∧ n.gates.length - kk ≤ gg ∧ s = .int .i64 kk ∧ ValInv b n.gates w kk v5 wr)
  case atStart => exact ⟨0, Nat.zero_le _, by omega, rfl, Ba (B0 w) _, by simp, World.ownsRow_nil _ _ _ _⟩
  case round =>
    obtain ⟨kk, hkk, hgk, rfl, VI⟩ := hrel
    have HV := Lib.hid VI
    by_cases hlt : kk < n.gates.length
    · obtain ⟨ad, u, rfl, hb, hu, hc⟩ := H.out kk hlt
      have hok := HG.out kk hlt
      have hc' := hc.below VI.1 (by rw [block_of_add]; exact hF _ hb)
      have h0 := hc'.f0 rfl
      have h1 := hc'.f1 rfl
      have h2 := hc'.f2 rfl
      have hu' := hu.keep (Agree.below VI.1 hF)
      have hstep := evalB_snoc b (n.gates.take kk) n.gates[kk] []
      rw [← List.take_succ_eq_append_getElem hlt] at hstep
      have hsw := VI.2.1
      have hFr : ∀ x, F x → x < wr.heap.size := fun x hx => by have := hF x hx; omega
      have HFr := Lib.hid hFr
      obtain ⟨A5, c5, rfl, hk5, hcells⟩ := val_cells VI hkk hl
      have HC := Lib.hid hcells
      clear hc hc' hu VI hFr hcells
      generalize n.gates[kk] = g at *
      obtain ⟨kd, ar, ins⟩ := g
      dsimp only at h0 h1 h2 hu'
      obtain ⟨A', c', rfl, hlc', hll', hati⟩ := hu'.open
      have HI := Lib.hid hati
      have HK := Lib.hid hok
      have hin := insOk _ kk _ hok
      have HIN := Lib.hid hin
      have hkind := kind_of _ _ _ _ _ hok
      clear hati hok hu' hin
      rcases hkind with rfl | rfl | rfl | rfl | rfl | rfl
      · have hk : 0 ≤ ar ∧ ar ≤ 3 := by
          have hok := HK.out
          simp only [gateOk, if_true, Bool.and_eq_true, decide_eq_true_eq] at hok
          omega
        obtain ⟨a, rfl⟩ := Int.eq_ofNat_of_zero_le hk.1
        have hbit : (bits .and .i64 ((b : Int) / 2 ^ a) 1 == 1) = b.testBit a := bit_at b hb16 a (by omega)
        have hgb : gateB b (evalB b [] (n.gates.take kk)) ⟨1, a, ins⟩ = b.testBit a := by simp [gateB]
        rw [hgb] at hstep
        have HS := Lib.hid hstep
        clear hstep hgb
        go_wp2_with (at_builtin; refine wpList_app1 elem34 rfl _ _ rfl (w.heap.size + 1) _ kk _ rfl (own_below (by first | exact Ba (Ba (B0 _) _) _ | exact Ba (Below.drewNs (Ba (B0 _) _) _) _) HV.out.2.2) (wr.heap.size + 1) (.bool (b.testBit a)) rfl (by simp) rfl (by omega) (by omega) (by simp; omega) ?_; intro v' w1 hown1 hgrow1 hat1)
        go_roundg (n.gates.length - (kk + 1))
        case measure => omega
        case rel => exact ⟨kk + 1, by omega, by omega, by go_num, val_next HV.out (by first | exact Ba (Ba (B0 _) _) _ | exact Ba (Below.drewNs (Ba (B0 _) _) _) _) hown1 hgrow1 HS.out⟩
      · obtain ⟨j0, rfl, hj0⟩ := two_in _ _ _ _ HK.out
        have hgb : gateB b (evalB b [] (n.gates.take kk)) ⟨2, ar, [(j0 : Int)]⟩ = !((evalB b [] (n.gates.take kk)).getD j0 false) := by simp [gateB]
        rw [hgb] at hstep
        have HS := Lib.hid hstep
        clear hstep hgb
        obtain ⟨adi, rfl, hbi, hci⟩ := HI.out 0 (by simp)
        have hba' : adi.block < wr.heap.size := HFr.out _ hbi
        have hci' : wr.cell? adi = some (.int .i64 j0) := by simpa [Addr.add] using hci
        obtain ⟨ad5, rfl, hb5, hc5⟩ := HC.out j0 hj0
        have hba5 : (ad5.add j0).block < wr.heap.size := by rw [block_of_add]; exact hb5
        have hjn : (j0 : Int) < kk := by omega
        clear hci hbi
        generalize (evalB b [] (n.gates.take kk)).getD j0 false = x at *
        go_wp2_with (at_builtin; refine wpList_app1 elem34 rfl _ _ rfl (w.heap.size + 1) _ kk _ rfl (own_below (by first | exact Ba (Ba (B0 _) _) _ | exact Ba (Below.drewNs (Ba (B0 _) _) _) _) HV.out.2.2) (wr.heap.size + 1) (.bool (!x)) rfl (by simp) rfl (by omega) (by omega) (by simp; omega) ?_; intro v' w1 hown1 hgrow1 hat1)
        go_roundg (n.gates.length - (kk + 1))
        case measure => omega
        case rel => exact ⟨kk + 1, by omega, by omega, by go_num, val_next HV.out (by first | exact Ba (Ba (B0 _) _) _ | exact Ba (Below.drewNs (Ba (B0 _) _) _) _) hown1 hgrow1 HS.out⟩
      · have hgb : gateB b (evalB b [] (n.gates.take kk)) ⟨3, ar, ins⟩ = andB (evalB b [] (n.gates.take kk)) ins true := by simp [gateB]
        rw [hgb] at hstep
        have HS := Lib.hid hstep
        have hfold := fun jj (h : jj < ins.length) => andB_take (evalB b [] (n.gates.take kk)) ins jj h true
        have hfold0 : andB (evalB b [] (n.gates.take kk)) (ins.take 0) true = true := rfl
        have hfold1 : andB (evalB b [] (n.gates.take kk)) (ins.take ins.length) true = andB (evalB b [] (n.gates.take kk)) ins true := by rw [List.take_length]
        have HF0 := Lib.hid hfold0
        have HF1 := Lib.hid hfold1
        have HFO := Lib.hid hfold
        clear hstep hgb hfold hfold0 hfold1
        obtain ⟨wo, rfl⟩ : ∃ wo : World, wo = wr := ⟨_, rfl⟩
        go_wp2_with fail
        go_loopg [8, 53] ins.length (fun gg v8 s wi => ∃ jj q : Nat, jj ≤ ins.length ∧ ins.length - jj ≤ gg ∧ s = .int .i64 jj ∧ v8 = .bool (andB (evalB b [] (n.gates.take kk)) (ins.take jj) true) ∧ wi = (wo.alloc (.cells #[.int .i64 3, .int .i64 ar, .slice A' ins.length c'] 38)).drewN q)
        case atStart => exact ⟨0, 0, Nat.zero_le _, by omega, rfl, by rw [HF0.out], rfl⟩
        case round =>
          obtain ⟨jj, q, hjj, hgj, rfl, rfl, rfl⟩ := hrel
          by_cases hlj : jj < ins.length
          · obtain ⟨adi, rfl, hbi, hci⟩ := HI.out jj hlj
            obtain ⟨h0', h1'⟩ := HIN.out ins[jj] (List.getElem_mem hlj)
            have hba : (adi.add jj).block < wo.heap.size := by rw [block_of_add]; exact HFr.out _ hbi
            have hst := HFO.out jj hlj
            generalize ins[jj] = iv at *
            obtain ⟨j0, rfl⟩ := Int.eq_ofNat_of_zero_le h0'
            have hj0 : j0 < kk := by omega
            obtain ⟨ad5, rfl, hb5, hc5⟩ := HC.out j0 hj0
            have hba5 : (ad5.add j0).block < wo.heap.size := by rw [block_of_add]; exact hb5
            have hjn : (j0 : Int) < kk := by omega
            rw [Int.toNat_natCast] at hst
            generalize (evalB b [] (n.gates.take kk)).getD j0 false = x at *
            generalize andB (evalB b [] (n.gates.take kk)) (ins.take jj) true = acc at *
            cases x
            all_goals
              have HST := Lib.hid hst
              clear hst
              go_wp2_with fail
              go_quiet (fail)
              go_wp2
              go_roundg (ins.length - (jj + 1))
              case measure => omega
              case rel => exact ⟨jj + 1, _, by omega, by omega, by go_num, by rw [HST.out]; rfl, by first | rfl | (rw [World.drewN_drewN])⟩
          · have : jj = ins.length := by omega
            subst this
            rw [HF1.out]
            generalize andB (evalB b [] (n.gates.take kk)) ins true = acc at *
            have hW : Below wo.heap.size wo (((wo.alloc (.cells #[.int .i64 3, .int .i64 ar, .slice A' ins.length c'] 38)).drewN q).alloc (.cells #[.bool acc] 4)) := Ba (Below.drewNs (Ba (B0 _) _) _) _
            have hcl : (((wo.alloc (.cells #[.int .i64 3, .int .i64 ar, .slice A' ins.length c'] 38)).drewN q).alloc (.cells #[.bool acc] 4)).cell? ⟨wo.heap.size + 1, 0, none⟩ = some (.bool acc) := by simp [go_sem]
            have hsz : w.heap.size + 1 ≤ (((wo.alloc (.cells #[.int .i64 3, .int .i64 ar, .slice A' ins.length c'] 38)).drewN q).alloc (.cells #[.bool acc] 4)).heap.size := by have := hW.size; omega
            have HW := Lib.hid hW
            have HCL := Lib.hid hcl
            have HSZ := Lib.hid hsz
            clear hW hcl hsz
            go_wp2_with (at_builtin; refine wpList_app1 elem34 rfl _ _ rfl (w.heap.size + 1) _ kk _ rfl (own_below HW.out HV.out.2.2) (wo.heap.size + 1) (.bool acc) rfl HCL.out rfl (by omega) (by omega) HSZ.out ?_; intro v' w1 hown1 hgrow1 hat1)
            go_roundg (n.gates.length - (kk + 1))
            case measure => omega
            case rel => exact ⟨kk + 1, by omega, by omega, by go_num, val_next HV.out HW.out hown1 hgrow1 HS.out⟩
      · have hgb : gateB b (evalB b [] (n.gates.take kk)) ⟨4, ar, ins⟩ = orB (evalB b [] (n.gates.take kk)) ins false := by simp [gateB]
        rw [hgb] at hstep
        have HS := Lib.hid hstep
        have hfold := fun jj (h : jj < ins.length) => orB_take (evalB b [] (n.gates.take kk)) ins jj h false
        have hfold0 : orB (evalB b [] (n.gates.take kk)) (ins.take 0) false = false := rfl
        have hfold1 : orB (evalB b [] (n.gates.take kk)) (ins.take ins.length) false = orB (evalB b [] (n.gates.take kk)) ins false := by rw [List.take_length]
        have HF0 := Lib.hid hfold0
        have HF1 := Lib.hid hfold1
        have HFO := Lib.hid hfold
        clear hstep hgb hfold hfold0 hfold1
        obtain ⟨wo, rfl⟩ : ∃ wo : World, wo = wr := ⟨_, rfl⟩
        go_wp2_with fail
        go_loopg [8, 53] ins.length (fun gg v8 s wi => ∃ jj q : Nat, jj ≤ ins.length ∧ ins.length - jj ≤ gg ∧ s = .int .i64 jj ∧ v8 = .bool (orB (evalB b [] (n.gates.take kk)) (ins.take jj) false) ∧ wi = (wo.alloc (.cells #[.int .i64 4, .int .i64 ar, .slice A' ins.length c'] 38)).drewN q)
        case atStart => exact ⟨0, 0, Nat.zero_le _, by omega, rfl, by rw [HF0.out], rfl⟩
        case round =>
          obtain ⟨jj, q, hjj, hgj, rfl, rfl, rfl⟩ := hrel
          by_cases hlj : jj < ins.length
          · obtain ⟨adi, rfl, hbi, hci⟩ := HI.out jj hlj
            obtain ⟨h0', h1'⟩ := HIN.out ins[jj] (List.getElem_mem hlj)
            have hba : (adi.add jj).block < wo.heap.size := by rw [block_of_add]; exact HFr.out _ hbi
            have hst := HFO.out jj hlj
            generalize ins[jj] = iv at *
            obtain ⟨j0, rfl⟩ := Int.eq_ofNat_of_zero_le h0'
            have hj0 : j0 < kk := by omega
            obtain ⟨ad5, rfl, hb5, hc5⟩ := HC.out j0 hj0
            have hba5 : (ad5.add j0).block < wo.heap.size := by rw [block_of_add]; exact hb5
            have hjn : (j0 : Int) < kk := by omega
            rw [Int.toNat_natCast] at hst
            generalize (evalB b [] (n.gates.take kk)).getD j0 false = x at *
            generalize orB (evalB b [] (n.gates.take kk)) (ins.take jj) false = acc at *
            cases x
            all_goals
              have HST := Lib.hid hst
              clear hst
              go_wp2_with fail
              go_quiet (fail)
              go_wp2
              go_roundg (ins.length - (jj + 1))
              case measure => omega
              case rel => exact ⟨jj + 1, _, by omega, by omega, by go_num, by rw [HST.out]; rfl, by first | rfl | (rw [World.drewN_drewN])⟩
          · have : jj = ins.length := by omega
            subst this
            rw [HF1.out]
            generalize orB (evalB b [] (n.gates.take kk)) ins false = acc at *
            have hW : Below wo.heap.size wo (((wo.alloc (.cells #[.int .i64 4, .int .i64 ar, .slice A' ins.length c'] 38)).drewN q).alloc (.cells #[.bool acc] 4)) := Ba (Below.drewNs (Ba (B0 _) _) _) _
            have hcl : (((wo.alloc (.cells #[.int .i64 4, .int .i64 ar, .slice A' ins.length c'] 38)).drewN q).alloc (.cells #[.bool acc] 4)).cell? ⟨wo.heap.size + 1, 0, none⟩ = some (.bool acc) := by simp [go_sem]
            have hsz : w.heap.size + 1 ≤ (((wo.alloc (.cells #[.int .i64 4, .int .i64 ar, .slice A' ins.length c'] 38)).drewN q).alloc (.cells #[.bool acc] 4)).heap.size := by have := hW.size; omega
            have HW := Lib.hid hW
            have HCL := Lib.hid hcl
            have HSZ := Lib.hid hsz
            clear hW hcl hsz
            go_wp2_with (at_builtin; refine wpList_app1 elem34 rfl _ _ rfl (w.heap.size + 1) _ kk _ rfl (own_below HW.out HV.out.2.2) (wo.heap.size + 1) (.bool acc) rfl HCL.out rfl (by omega) (by omega) HSZ.out ?_; intro v' w1 hown1 hgrow1 hat1)
            go_roundg (n.gates.length - (kk + 1))
            case measure => omega
            case rel => exact ⟨kk + 1, by omega, by omega, by go_num, val_next HV.out HW.out hown1 hgrow1 HS.out⟩
      · have hgb : gateB b (evalB b [] (n.gates.take kk)) ⟨5, ar, ins⟩ = false := by simp [gateB]
        rw [hgb] at hstep
        have HS := Lib.hid hstep
        clear hstep hgb
        go_wp2_with (at_builtin; refine wpList_app1 elem34 rfl _ _ rfl (w.heap.size + 1) _ kk _ rfl (own_below (by first | exact Ba (Ba (B0 _) _) _ | exact Ba (Below.drewNs (Ba (B0 _) _) _) _) HV.out.2.2) (wr.heap.size + 1) (.bool (false)) rfl (by simp) rfl (by omega) (by omega) (by simp; omega) ?_; intro v' w1 hown1 hgrow1 hat1)
        go_roundg (n.gates.length - (kk + 1))
        case measure => omega
        case rel => exact ⟨kk + 1, by omega, by omega, by go_num, val_next HV.out (by first | exact Ba (Ba (B0 _) _) _ | exact Ba (Below.drewNs (Ba (B0 _) _) _) _) hown1 hgrow1 HS.out⟩
      · have hgb : gateB b (evalB b [] (n.gates.take kk)) ⟨6, ar, ins⟩ = true := by simp [gateB]
        rw [hgb] at hstep
        have HS := Lib.hid hstep
        clear hstep hgb
        go_wp2_with (at_builtin; refine wpList_app1 elem34 rfl _ _ rfl (w.heap.size + 1) _ kk _ rfl (own_below (by first | exact Ba (Ba (B0 _) _) _ | exact Ba (Below.drewNs (Ba (B0 _) _) _) _) HV.out.2.2) (wr.heap.size + 1) (.bool (true)) rfl (by simp) rfl (by omega) (by omega) (by simp; omega) ?_; intro v' w1 hown1 hgrow1 hat1)
        go_roundg (n.gates.length - (kk + 1))
        case measure => omega
        case rel => exact ⟨kk + 1, by omega, by omega, by go_num, val_next HV.out (by first | exact Ba (Ba (B0 _) _) _ | exact Ba (Below.drewNs (Ba (B0 _) _) _) _) hown1 hgrow1 HS.out⟩
    · have : kk = n.gates.length := by omega
      subst this
      have hlen : (evalB b [] (n.gates.take n.gates.length)).length = n.gates.length := by rw [evalB_length]; simp
      have HL := Lib.hid hlen
      clear VI hlen
      go_wp2
      go_ret
      refine ⟨_, rfl, ?_, HV.out.1⟩
      have h3 := HV.out.2.2
      rw [List.take_length] at h3
      have hl' := HL.out
      rw [List.take_length] at hl'
      exact SlBo.of_own (by rw [hl']; exact h3) (by omega) fun x q1 q2 _ => ⟨by omega, q2⟩
end Go.Proofs.Ytbcbkllahnahnaa
