/- Plain and walks over coupler's statements: sameKeys, Keys. Plain and walks over coupler's statements: Keys. -/
import Derived.Test.YtnkjhppjjklgfaaDoorOf
import Derived.Test.YtnkjhppjjklgfaaDoorKy
namespace Go.Proofs.YtnkjhppjjklgfaaDoor
open Go Go.RowKit Go.Shelf
/-- Lists that agree up to k. -/
def UptoN (l m : List Nat) (k : Nat) : Prop := ∀ i, i < k → l[i]? = m[i]?
theorem UptoN.all {l m : List Nat} (h : UptoN l m l.length) (hl : l.length = m.length) : l = m := by
  refine List.ext_getElem? fun i => ?_
  by_cases hi : i < l.length
  · exact h i hi
  · rw [List.getElem?_eq_none (by omega), List.getElem?_eq_none (by omega)]
set_option maxRecDepth 100000 in
set_option maxHeartbeats 2000000 in
theorem sameKeys_any (v v' : Value) (l m : List Nat) (w : World) (F : Nat → Prop) (hF : ∀ b, F b → b < w.heap.size) (h : SlK F w v l) (h' : SlK F w v' m) :
    Calls Tryd.prog 28 #[v, v'] w fun e w' => e = .returned (.bool (decide (l = m))) ∧ Below w.heap.size w w' := by
  obtain ⟨A, c, rfl, _, hlm, hat⟩ := h.open
  obtain ⟨A', c', rfl, _, hlm', hat'⟩ := h'.open
  by_cases hlen : l.length = m.length
  · obtain ⟨n, hn⟩ : ∃ n, l.length = n := ⟨_, rfl⟩
    have hn' : m.length = n := by omega
    rw [hn] at hlm ⊢
    rw [hn']
    have HN := Lib.hid hn
    have HN' := Lib.hid hn'
    have hnn : (n : Int) ≤ 9223372036854775807 := by omega
    have HAT := Lib.hid hat
    have HAT' := Lib.hid hat'
    clear hlen hn hn' h h' hat hat'
    go_enter Tryd.func28, Tryd.ntmps28
    go_wp2
    go_loopw [5] (fun p wr => ∃ k : Nat, k ≤ n ∧ p = .int .i64 k ∧ Aside (UptoN l m k) ∧ Aside (Below w.heap.size w wr)) (fun p _ => n - (intOf p).toNat)
    case atStart => exact ⟨0, Nat.zero_le _, rfl, fun i hi => absurd hi (by omega), B0 w⟩
    case round =>
      obtain ⟨k, hk, rfl, hU, hB⟩ := hrel
      replace hU : UptoN l m k := hU
      replace hB : Below w.heap.size w wr := hB
      by_cases hlt : k < n
      · have hltI : (k : Int) < n := by omega
        have hk1 : k < l.length := by rw [HN.out]; exact hlt
        have hk2 : k < m.length := by rw [HN'.out]; exact hlt
        obtain ⟨ad, rfl, hf, hfl⟩ := HAT.out k hk1
        obtain ⟨ad', rfl, hf', hfl'⟩ := HAT'.out k hk2
        have q := hfl.below hB (by rw [block_of_add]; exact hF _ hf)
        have q' := hfl'.below hB (by rw [block_of_add]; exact hF _ hf')
        have q0 := q.f0 rfl
        have q1 := q.f1 rfl
        have q0' := q'.f0 rfl
        have q1' := q'.f1 rfl
        have g1 : l[k]? = some l[k] := List.getElem?_eq_getElem hk1
        have g2 : m[k]? = some m[k] := List.getElem?_eq_getElem hk2
        have HG1 := Lib.hid g1
        have HG2 := Lib.hid g2
        clear g1 g2 hfl hfl' q q' hf hf'
        generalize l[k] = x at *
        generalize m[k] = y at *
        have HX : Hid (((Nt.lo x : Nat) : Int) = ((Nt.lo y : Nat) : Int) ∧ ((Nt.hi x : Nat) : Int) = ((Nt.hi y : Nat) : Int) ↔ x = y) := Lib.hid ⟨fun h => Nt.ext2 (by omega) (by omega), fun h => by subst h; exact ⟨rfl, rfl⟩⟩
        generalize ((Nt.lo x : Nat) : Int) = x1 at *
        generalize ((Nt.hi x : Nat) : Int) = x2 at *
        generalize ((Nt.lo y : Nat) : Int) = y1 at *
        generalize ((Nt.hi y : Nat) : Int) = y2 at *
        have HU := Lib.hid hU
        have HB := Lib.hid hB
        clear hU hB hk1 hk2
        by_cases hxy : x1 = y1 ∧ x2 = y2
        · have HXY := Lib.hid (HX.out.1 hxy)
          obtain ⟨rfl, rfl⟩ := hxy
          go_upto_region 6 with fail
          go_quiet (fail)
          go_wp2
          go_roundw
          case rel => exact ⟨k + 1, by omega, by go_num, (fun i hi => by
            by_cases e : i = k
            · subst e; rw [HG1.out, HG2.out, HXY.out]
            · exact HU.out i (by omega)), below_drewN HB.out _⟩
          case measure => simp [intOf]; omega
        · have HQ : Hid (decide (l = m) = false) := Lib.hid (decide_eq_false (fun e => hxy (by
            subst e
            have := HG1.out.symm.trans HG2.out
            exact HX.out.2 (by simpa using this))))
          by_cases h1 : x1 = y1
          · subst h1
            have h2 : (x2 == y2) = false := by simpa using hxy
            clear hxy
            go_upto_region 6 with fail
            go_quiet (fail)
            go_wp2
            go_ret
            exact ⟨by rw [HQ.out]; rfl, below_drewN HB.out _⟩
          · have h2 : (x1 == y1) = false := by simpa using h1
            clear hxy h1
            go_upto_region 6 with fail
            go_quiet (fail)
            go_wp2
            go_ret
            exact ⟨by rw [HQ.out]; rfl, below_drewN HB.out _⟩
      · obtain rfl : k = n := by omega
        have HU := Lib.hid hU
        have HB := Lib.hid hB
        clear hU hB
        go_wp2
        go_ret
        have : l = m := UptoN.all (by rw [HN.out]; exact HU.out) (by rw [HN.out, HN'.out])
        exact ⟨by rw [decide_eq_true this]; rfl, HB.out⟩
  · have hq : ((l.length : Int) != m.length) = true := by simp; omega
    have HQ : Hid (decide (l = m) = false) := Lib.hid (decide_eq_false (fun e => hlen (by rw [e])))
    clear h h' hat hat' hlen
    generalize l.length = a at *
    generalize m.length = b at *
    go_enter Tryd.func28, Tryd.ntmps28
    go_wp2
    go_ret
    exact ⟨by rw [HQ.out]; rfl, B0 w⟩
end Go.Proofs.YtnkjhppjjklgfaaDoor
namespace Go.Proofs.YtnkjhppjjklgfaaDoor
open Go Go.RowKit Go.Shelf
theorem infoNtE : (Tryd.prog.info? 70).map (fun i => (i.zero, i.size, i.bytes)) = some (some (.agg #[.int .u64 0, .int .u64 0]), 2, 16) := by kernel_rfl
theorem elemNt : ElemN Tryd.prog 64 70 2 16 := ⟨Tryd.underlying64, by
  obtain ⟨i, hi, hz, hs, hb⟩ := info_parts infoNtE
  exact ⟨i, _, hi, hz, hs, hb, rfl⟩⟩
namespace Cou
/-- The keys of a compass that are bits of a number, up to the j-th. -/
def keyLj (lo : Int) (b j : Nat) : List Int := ((List.range j).filter fun i => b.testBit i).map fun i : Nat => lo + (i : Int)
def keyL (c : Int × Int) (b : Nat) : List Int := keyLj c.1 b (c.2 + 1 - c.1).toNat
def keyS (c : Int × Int) (b : Nat) : Nat := Nt.setF (keyL c b) 0
def bitKj (a : Ac) (bs : List Nat) (n : Nat) : List Nat := (List.range n).map fun i => keyS (a.divs.getD i (0, -1)) (bs.getD (i % 3) 0)
/-- The keys of an action by bits. -/
def bitK (a : Ac) (bs : List Nat) : List Nat := bitKj a bs a.divs.length
theorem keyLj_snoc (lo : Int) (b j : Nat) : keyLj lo b (j + 1) = if b.testBit j = true then keyLj lo b j ++ [lo + (j : Int)] else keyLj lo b j := by
  unfold keyLj
  rw [List.range_succ, List.filter_append, List.map_append]
  by_cases h : b.testBit j = true
  · rw [if_pos h]; simp [h]
  · rw [if_neg h]; simp [h]
theorem keyLj_len (lo : Int) (b j : Nat) : (keyLj lo b j).length ≤ j := by
  unfold keyLj
  rw [List.length_map]
  exact Nat.le_trans (List.length_filter_le _ _) (by simp)
theorem mem_keyL {c : Int × Int} {b : Nat} {k : Int} : k ∈ keyL c b ↔ c.1 ≤ k ∧ k ≤ c.2 ∧ b.testBit (k - c.1).toNat = true := by
  unfold keyL keyLj
  rw [List.mem_map]
  constructor
  · rintro ⟨i, hi, rfl⟩
    rw [List.mem_filter, List.mem_range] at hi
    refine ⟨by omega, by omega, ?_⟩
    rw [show (c.1 + (i : Int) - c.1).toNat = i by omega]
    exact hi.2
  · rintro ⟨h1, h2, h3⟩
    refine ⟨(k - c.1).toNat, ?_, by omega⟩
    rw [List.mem_filter, List.mem_range]
    exact ⟨by omega, h3⟩
theorem keyL_note {a : Ac} (h : Ok a) (i b : Nat) : ∀ k ∈ keyL (a.divs.getD i (0, -1)) b, Nt.noteB k = true := fun k hk => by
  have := mem_keyL.1 hk
  have hd := h.divD i
  unfold Nt.noteB
  simp
  omega
theorem keyS_test {a : Ac} (h : Ok a) (i b k : Nat) : (keyS (a.divs.getD i (0, -1)) b).testBit k = true ↔ inB (a.divs.getD i (0, -1)) k = true ∧ b.testBit ((k : Int) - (a.divs.getD i (0, -1)).1).toNat = true := by
  unfold keyS
  rw [Nt.setF_test (keyL_note h i b), mem_keyL]
  unfold inB
  simp [and_assoc]
theorem bitK_len (a : Ac) (bs : List Nat) : (bitK a bs).length = a.divs.length := by unfold bitK bitKj; simp
theorem bitKj_snoc (a : Ac) (bs : List Nat) (n : Nat) : bitKj a bs (n + 1) = bitKj a bs n ++ [keyS (a.divs.getD n (0, -1)) (bs.getD (n % 3) 0)] := by
  unfold bitKj
  rw [List.range_succ, List.map_append]
  rfl
theorem bitKj_len (a : Ac) (bs : List Nat) (n : Nat) : (bitKj a bs n).length = n := by unfold bitKj; simp
theorem bitK_get {a : Ac} {bs : List Nat} {i : Nat} (hi : i < a.divs.length) : (bitK a bs).getD i 0 = keyS (a.divs.getD i (0, -1)) (bs.getD (i % 3) 0) := by
  unfold bitK bitKj
  rw [List.getD_eq_getElem?_getD, List.getElem?_map, List.getElem?_range hi]
  rfl
theorem bitK_lt {a : Ac} (h : Ok a) (bs : List Nat) : ∀ x ∈ bitK a bs, x < 2 ^ 128 := fun x hx => by
  unfold bitK bitKj at hx
  obtain ⟨i, _, rfl⟩ := List.mem_map.1 hx
  exact Nt.setF_lt (keyL_note h i _) (by decide)
/-- The keys by bits are keys. -/
theorem bitK_ok {a : Ac} (h : Ok a) (hr : rightF a = 0) (bs : List Nat) : allErr a (bitK a bs) = 0 := by
  unfold allErr playedR
  rw [if_pos hr, if_pos (bitK_len a bs), if_pos]
  unfold okAll
  rw [List.all_eq_true]
  intro i hi
  rw [List.mem_range, bitK_len] at hi
  unfold okOne
  rw [List.all_eq_true]
  intro k hk
  have hx : keyS (a.divs.getD i (0, -1)) (bs.getD (i % 3) 0) < 2 ^ 128 := Nt.setF_lt (keyL_note h i _) (by decide)
  rw [bitK_get hi, Nt.mem_iff hx, keyS_test h] at hk
  exact hk.1
end Cou
theorem bitK_and (b j : Nat) (hb : b < 65536) : bits .and .u16 ((b >>> j : Nat) : Int) 1 = ((b >>> j &&& 1 : Nat) : Int) := by
  have hle : b >>> j ≤ b := by rw [Nat.shiftRight_eq_div_pow]; exact Nat.div_le_self _ _
  exact u16_and_nat (b >>> j) 1 (by omega) (by omega)
set_option maxRecDepth 100000 in
set_option maxHeartbeats 4000000 in
theorem Keys_any (a : Cou.Ac) (hok : Cou.Ok a) (hsm : ∀ c ∈ a.divs, c.2 ≤ c.1 + 12) (vd vc : Value) (dr : Int) (b0 b1 b2 : Nat) (hb0 : b0 < 65536) (hb1 : b1 < 65536) (hb2 : b2 < 65536) (w : World) (F : Nat → Prop) (hA : AcAt F w vd vc a) :
    Calls Tryd.prog 23 #[.agg #[vd, vc, .int .u64 dr], .agg #[.int .u16 b0, .int .u16 b1, .int .u16 b2]] w fun e w' => ∃ v, e = .returned v ∧ SlK (fun b => w.heap.size ≤ b ∧ b < w'.heap.size) w' v (Cou.bitK a [b0, b1, b2]) ∧ Below w.heap.size w w' := by
  obtain ⟨Ad, cd, rfl, _, had⟩ := id hA.dv.open
  have hFF := hA.inW
  obtain ⟨B, hBB⟩ : ∃ B, w.heap.size = B := ⟨_, rfl⟩
  obtain ⟨bs, hbs⟩ : ∃ bs, [b0, b1, b2] = bs := ⟨_, rfl⟩
  have hbl : ∀ r, r < 3 → ∃ b, bs.getD r 0 = b ∧ b < 65536 ∧ (#[Value.int .u16 (b0 : Int), .int .u16 (b1 : Int), .int .u16 (b2 : Int)])[r]? = some (.int .u16 (b : Int)) := fun r hr => by
    subst hbs
    have : r = 0 ∨ r = 1 ∨ r = 2 := by omega
    rcases this with rfl | rfl | rfl
    · exact ⟨b0, rfl, hb0, rfl⟩
    · exact ⟨b1, rfl, hb1, rfl⟩
    · exact ⟨b2, rfl, hb2, rfl⟩
  obtain ⟨w1, hw1⟩ : ∃ w1 : World, (w.alloc (.cells #[.slice Ad a.divs.length cd, vc, .int .u64 dr] 34)).alloc (.cells #[.int .u16 b0, .int .u16 b1, .int .u16 b2] 62) = w1 := ⟨_, rfl⟩
  have AB : Blk w1 B 34 #[.slice Ad a.divs.length cd, vc, .int .u64 dr] := by rw [← hw1, ← hBB]; exact (Blk.new _ _ _).alloc _
  have BB : Blk w1 (B + 1) 62 #[.int .u16 b0, .int .u16 b1, .int .u16 b2] := by
    have := Blk.new (w.alloc (.cells #[.slice Ad a.divs.length cd, vc, .int .u64 dr] 34)) 62 #[.int .u16 b0, .int .u16 b1, .int .u16 b2]
    rw [hw1] at this
    simpa [hBB] using this
  have B1 : Below w.heap.size w w1 := by rw [← hw1]; exact Ba (Ba (B0 w) _) _
  have s1 : w1.heap.size = B + 2 := by rw [← hw1, ← hBB]; simp
  obtain ⟨n, hn⟩ : ∃ n, a.divs.length = n := ⟨_, rfl⟩
  have hn8 : n ≤ 8 := by rw [← hn]; exact hok.nd
  have HW1 := Lib.hid hw1
  have HBB := Lib.hid hBB
  have HBS := Lib.hid hbs
  have HBL := Lib.hid hbl
  have HB1 := Lib.hid B1
  have HAD := Lib.hid had
  have HX := Lib.hid (fun W (hb : Below w1.heap.size w1 W) => (show W.cell? ⟨B, 0, none⟩ = some (.slice Ad n cd) from by rw [← hn]; exact (Bc hb AB.lt).trans (AB.cell 0)))
  have HZ := Lib.hid (fun W (hb : Below w1.heap.size w1 W) (r : Nat) (u : Value) (hu : (#[Value.int .u16 (b0 : Int), .int .u16 (b1 : Int), .int .u16 (b2 : Int)])[r]? = some u) => (show W.cell? ⟨B + 1, r, none⟩ = some u from (Bc hb BB.lt).trans ((BB.cell r).trans hu)))
  have HOK := Lib.hid hok
  have HSM := Lib.hid hsm
  have HN := Lib.hid hn
  rw [hn] at HW1
  rw [hn]
  clear hw1 hBB hbs hbl B1 had AB BB hA hok hsm hn hb0 hb1 hb2
  go_enter Tryd.func23, Tryd.ntmps23
  go_upto_region 1 with fail
  rw [HW1.out, HBB.out]
  go_wp2_with fail
  go_loopw [5, 6] (fun s5 s6 wr => ∃ k : Nat, k ≤ n ∧ s6 = .int .i64 k ∧ Aside (OwnL (B + 2) 70 2 NtC wr s5 (Cou.bitKj a bs k)) ∧ Aside (Below w1.heap.size w1 wr)) (fun _ s6 _ => n - (intOf s6).toNat)
  case atStart => exact ⟨0, by omega, rfl, (show OwnL _ _ _ _ _ _ _ from OwnL.nil), B0 w1⟩
  case round =>
    obtain ⟨i, hi, rfl, hO, hB⟩ := hrel
    replace hB : Below w1.heap.size w1 wr := hB
    replace hO : OwnL (B + 2) 70 2 NtC wr u5 (Cou.bitKj a bs i) := hO
    have x0 := HX.out wr hB
    by_cases hlt : i < n
    · have hltI : (i : Int) < n := by omega
      have hi1 : i < a.divs.length := by rw [HN.out]; exact hlt
      obtain ⟨ad, rfl, hf, hfl⟩ := HAD.out i hi1
      have hfb : (ad.add (i * 2)).block < w.heap.size := by rw [block_of_add]; exact hFF _ hf
      have hgc : a.divs.getD i (0, -1) = a.divs[i] := by rw [List.getD_eq_getElem?_getD, List.getElem?_eq_getElem hi1]; rfl
      have hdv := HOK.out.div _ (List.getElem_mem hi1)
      have hds := HSM.out _ (List.getElem_mem hi1)
      have hsn := Cou.bitKj_snoc a bs i
      have hnote := Cou.keyL_note HOK.out i (bs.getD (i % 3) 0)
      rw [hgc] at hsn hnote
      have HFL := Lib.hid (fun W (hb : Below w1.heap.size w1 W) => (hfl.below HB1.out hfb).below hb (Nat.lt_of_lt_of_le hfb HB1.out.size))
      obtain ⟨r, hr⟩ : ∃ r, i % 3 = r := ⟨_, rfl⟩
      have hr3 : r < 3 := by omega
      have hr3I : (r : Int) < 3 := by omega
      have hmod : (i : Int).tmod 3 = (r : Int) := by rw [Int.tmod_eq_emod_of_nonneg (by omega)]; omega
      rw [hr] at hsn hnote
      obtain ⟨b, hbb, hb16, hbc⟩ := HBL.out r hr3
      rw [hbb] at hsn hnote
      have HZB := Lib.hid (fun W hb => HZ.out W hb r _ hbc)
      have HSN := Lib.hid hsn
      have HNO := Lib.hid hnote
      have HO := Lib.hid hO
      have HB := Lib.hid hB
      clear hfl hgc hsn hnote hO hB hr hbb hbc
      generalize a.divs[i] = dv at *
      obtain ⟨lo, hi'⟩ := dv
      dsimp only at HFL hdv hds
      have q := HFL.out wr HB.out
      have f0 := q.f0 rfl
      have f1 := q.f1 rfl
      obtain ⟨m, hm⟩ : ∃ m, (hi' + 1 - lo).toNat = m := ⟨_, rfl⟩
      have hm13 : m ≤ 13 := by omega
      have hmE : lo + (m : Int) = hi' + 1 := by omega
      have HKL : Hid (Cou.keyL (lo, hi') b = Cou.keyLj lo b m) := Lib.hid (by unfold Cou.keyL; rw [hm])
      obtain ⟨w0, hw0⟩ : ∃ w0, wr.heap.size = w0 := ⟨_, rfl⟩
      have HOW := Lib.hid HO.out.lt
      rw [hw0] at HOW
      have HW0 := Lib.hid hw0
      have hBw0 : B + 2 ≤ w0 := by have := HB.out.size; omega
      have hOB := HO.out
      have hBB1 := HB.out
      clear q hm hw0 HO HB
      have HO := Lib.hid hOB
      have HB := Lib.hid hBB1
      clear hOB hBB1
      go_wp2_with fail
      obtain ⟨wo, rfl⟩ : ∃ wo : World, wo = wr := ⟨_, rfl⟩
      go_loopw [7, 8] (fun s7 s8 wr => ∃ j : Nat, j ≤ m ∧ s8 = .int .i64 (lo + j) ∧ Aside (OwnL w0 3 1 IntC wr s7 (Cou.keyLj lo b j)) ∧ Aside (OwnL (B + 2) 70 2 NtC wr u5 (Cou.bitKj a bs i)) ∧ Aside (Below w1.heap.size w1 wr) ∧ Aside (w0 ≤ wr.heap.size)) (fun _ s8 _ => (hi' + 1 - intOf s8).toNat)
      case atStart => exact ⟨0, by omega, by simp, (show OwnL _ _ _ _ _ _ _ from OwnL.nil), HO.out, HB.out, Nat.le_of_eq HW0.out.symm⟩
      case round =>
        clear HO HB HW0 x0 f0 f1
        obtain ⟨j, hj, rfl, hK, hO, hB, hS⟩ := hrel
        replace hK : OwnL w0 3 1 IntC wr u7 (Cou.keyLj lo b j) := hK
        replace hO : OwnL (B + 2) 70 2 NtC wr u5 (Cou.bitKj a bs i) := hO
        replace hB : Below w1.heap.size w1 wr := hB
        replace hS : w0 ≤ wr.heap.size := hS
        have x0 := HX.out wr hB
        have q := HFL.out wr hB
        have f0 := q.f0 rfl
        have f1 := q.f1 rfl
        clear q
        by_cases hjm : j < m
        · have hle : decide (lo + (j : Int) ≤ hi') = true := decide_eq_true (by omega)
          have hbk := HZB.out wr hB
          have hsub : IntKind.i64.wrap (lo + (j : Int) - lo) = (j : Int) := by simp [IntKind.wrap, IntKind.bits, IntKind.signed]; omega
          have hsub2 : lo + (j : Int) - lo = (j : Int) := by omega
          have h3 : ((j : Nat) : Int) % 18446744073709551616 = j := by omega
          have h4 : min j 16 = j := by omega
          have h5 : min j 64 = j := by omega
          have hsh := shr_of b j (by omega)
          have hand := bitK_and b j hb16
          have hbit := bit_of b j
          have hsnj := Cou.keyLj_snoc lo b j
          have hlen := Cou.keyLj_len lo b j
          obtain ⟨cs, q1, q2, q3⟩ := id hK
          obtain ⟨ml, hml⟩ : ∃ ml, (Cou.keyLj lo b j).length = ml := ⟨_, rfl⟩
          rw [hml] at hlen q3
          have HQ1 := Lib.hid q1
          have HQ2 := Lib.hid q2
          have HQ3 := Lib.hid q3
          have HML := Lib.hid hml
          have HK := Lib.hid hK
          have HO := Lib.hid hO
          have HB := Lib.hid hB
          have HSJ := Lib.hid hsnj
          generalize b >>> j &&& 1 = vb at *
          generalize b >>> j = vs at *
          clear hK hO hB q1 q2 q3 hml hsnj
          cases hb : b.testBit j with
          | true =>
            rw [hb] at hbit
            have HSJ2 : Hid (Cou.keyLj lo b (j + 1) = Cou.keyLj lo b j ++ [lo + (j : Int)]) := Lib.hid (by rw [HSJ.out, if_pos hb])
            clear hb
            go_upto_region 9 with fail
            go_quiet (fail)
            generalize hw5 : World.drewN wr _ = w5
            have HQ5 : Hid (w5.ownsRow w0 3 1 u7 ml cs.flatten) := Lib.hid (by rw [← hw5]; exact HQ3.out)
            have HO5 : Hid (OwnL (B + 2) 70 2 NtC w5 u5 (Cou.bitKj a bs i)) := Lib.hid (by rw [← hw5]; exact HO.out)
            have HK5 : Hid (OwnL w0 3 1 IntC w5 u7 (Cou.keyLj lo b j)) := Lib.hid (by rw [← hw5]; exact HK.out)
            have HB5 : Hid (Below w1.heap.size w1 w5) := Lib.hid (by rw [← hw5]; exact below_drewN HB.out _)
            have hS5 : w0 ≤ w5.heap.size := by rw [← hw5]; exact hS
            clear hw5 HQ3 HO HK HB hS hsh hand hbit hsub hsub2 x0 f0 f1 hbk
            go_wp2_with (at_builtin; refine wpList_appS elemIn (by omega) rfl _ _ rfl w0 u7 ml cs.flatten rfl (HQ5.out.alloc _) ⟨w5.heap.size, 0, none⟩ 1 [.int .i64 (lo + (j : Int))] rfl rfl (Flds.new w5 _ _) (by simp [Value.oneCell']) (by omega) (by omega) (by simp; omega) ?_; intro g cap w8 hown8 hg8 hgg; have HO8 := Lib.hid hown8; have HG8 := Lib.hid hg8; clear hown8 hg8 hgg)
            go_roundw
            case rel =>
              refine ⟨j + 1, by omega, by go_num, ?_, ?_, ?_, ?_⟩
              · show OwnL _ _ _ _ _ _ _
                rw [HSJ2.out]
                exact OwnL.snoc (c := [.int .i64 (lo + (j : Int))]) HQ1.out HQ2.out rfl rfl (fun _ _ h => h) (by rw [HML.out]; exact HO8.out)
              · show OwnL _ _ _ _ _ _ _
                refine (OwnL.alloc (R' := NtC) HO5.out _ fun _ _ h => h).keep (R' := NtC) rfl (fun xs hx => hx.kept HG8.out ?_) (fun _ _ h => h)
                cases hv : u5.ownBlock with
                | none => exact .inl rfl
                | some b =>
                  refine .inr fun e => ?_
                  have := (HOW.out b hv).2
                  have := (HK5.out.lt b e.symm).1
                  omega
              · show Below _ _ _
                exact (Ba HB5.out _).grown HG8.out (by have := HB5.out.size; simp; omega) fun k e => by have := (HK5.out.lt k e).1; omega
              · show _ ≤ _
                have := HG8.out.size
                simp at this
                omega
            case measure => simp [intOf]; omega
          | false =>
            rw [hb] at hbit
            have HSJ2 : Hid (Cou.keyLj lo b (j + 1) = Cou.keyLj lo b j) := Lib.hid (by rw [HSJ.out, if_neg (by rw [hb]; decide)])
            clear hb
            go_upto_region 9 with fail
            go_quiet (fail)
            go_wp2_with fail
            go_roundw
            case rel => exact ⟨j + 1, by omega, by go_num, (show OwnL _ _ _ _ _ _ _ from by rw [HSJ2.out]; exact HK.out), HO.out, below_drewN HB.out _, hS⟩
            case measure => simp [intOf]; omega
        · obtain rfl : j = m := by omega
          have hle : decide (lo + (j : Int) ≤ hi') = false := decide_eq_false (by omega)
          have hlen := Cou.keyLj_len lo b j
          have hof := of_any u7 _ wr (fun b => b < wr.heap.size) (fun _ h => h) (hK.sl (by omega) (fun b _ h _ => h)) (by omega)
          have hofr : ofR (Cou.keyLj lo b j) = (Cou.keyS (lo, hi') b, 0) := by
            unfold ofR
            rw [if_pos (by rw [List.all_eq_true, ← HKL.out]; exact HNO.out)]
            unfold Cou.keyS
            rw [HKL.out]
          rw [hofr] at hof
          unfold ofV at hof
          dsimp only at hof
          obtain ⟨cs, q1, q2, q3⟩ := id hO
          rw [Cou.bitKj_len] at q3
          have HOF := Lib.hid hof
          have HQ1 := Lib.hid q1
          have HQ2 := Lib.hid q2
          have HQ3 := Lib.hid q3
          have HO := Lib.hid hO
          have HB := Lib.hid hB
          clear hK hO hB q1 q2 q3 hof hofr hlen
          generalize Cou.keyS (lo, hi') b = ky at *
          unfold ntV at *
          go_upto_region 12 with (go_at_call 48; (with_reducible refine (HOF.out.mono ?_)); rintro e w5 ⟨rfl, hb5⟩; have HB5 := Lib.hid hb5; clear hb5)
          obtain ⟨w6, hw6⟩ : ∃ w6 : World, w5.alloc (.cells #[.int .u64 ((Nt.lo ky : Nat) : Int), .int .u64 ((Nt.hi ky : Nat) : Int)] 70) = w6 := ⟨_, rfl⟩
          obtain ⟨b9, hb9⟩ : ∃ b9, w5.heap.size = b9 := ⟨_, rfl⟩
          have C6 : Blk w6 b9 70 #[.int .u64 ((Nt.lo ky : Nat) : Int), .int .u64 ((Nt.hi ky : Nat) : Int)] := by rw [← hw6, ← hb9]; exact Blk.new _ _ _
          have B6 : Below wr.heap.size wr w6 := by rw [← hw6]; exact Ba HB5.out _
          rw [hw6, hb9]
          have d0 := C6.cell 0
          have d1 := C6.cell 1
          simp only [List.getElem?_toArray, List.getElem?_cons_zero, List.getElem?_cons_succ] at d0 d1
          have HB6 := Lib.hid B6
          have HQ6 : Hid (w6.ownsRow (B + 2) 70 2 u5 i cs.flatten) := Lib.hid (HQ3.out.kept (row := none) (only_of_below B6 none) (by cases hv : u5.ownBlock <;> simp))
          have hs6 := B6.size
          clear C6 B6 hw6 hb9
          go_wp2_with (at_builtin; refine wpList_appS elemNt (by omega) rfl _ _ rfl (B + 2) u5 i cs.flatten rfl (HQ6.out.alloc _) ⟨w6.heap.size, 0, none⟩ 1 [.int .u64 ((Nt.lo ky : Nat) : Int), .int .u64 ((Nt.hi ky : Nat) : Int)] rfl rfl (Flds.new w6 _ _) (by simp [Value.oneCell']) (by omega) (by omega) (by simp; omega) ?_; intro g cap w8 hown8 hg8 hgg; have HO8 := Lib.hid hown8; have HG8 := Lib.hid hg8; clear hown8 hg8 hgg)
          go_roundw
          case rel =>
            refine ⟨i + 1, by omega, by go_num, ?_, ?_⟩
            · show OwnL _ _ _ _ _ _ _
              rw [HSN.out]
              exact OwnL.snoc (c := [.int .u64 ((Nt.lo ky : Nat) : Int), .int .u64 ((Nt.hi ky : Nat) : Int)]) HQ1.out HQ2.out rfl rfl (fun _ _ h => h) (by rw [Cou.bitKj_len]; exact HO8.out)
            · show Below _ _ _
              exact (Ba (Bt HB.out HB6.out) _).grown HG8.out (by have := HB.out.size; simp; omega) fun k e => by have := (HO.out.lt k e).1; omega
          case measure => simp [intOf]; omega
    · obtain rfl : i = n := by omega
      have HO := Lib.hid hO
      have HB := Lib.hid hB
      clear hO hB
      go_wp2_with fail
      go_ret
      refine ⟨u5, rfl, ?_, Bt HB1.out HB.out⟩
      have hsl := HO.out.sl (F := fun b => w.heap.size ≤ b ∧ b < wr.heap.size) (by rw [Cou.bitKj_len]; omega) (fun b q1 q2 _ => ⟨by have := HBB.out; omega, q2⟩)
      unfold Cou.bitK
      rw [HN.out, HBS.out]
      exact hsl
end Go.Proofs.YtnkjhppjjklgfaaDoor
