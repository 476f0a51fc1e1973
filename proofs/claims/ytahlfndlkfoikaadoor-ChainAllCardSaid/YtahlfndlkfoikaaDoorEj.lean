/- Walks over noteset: Name. -/
import Derived.Test.YtahlfndlkfoikaaDoorSf
import Derived.Test.YtahlfndlkfoikaaDoorNc
import Derived.Test.YtahlfndlkfoikaaDoorOpen
import Derived.Test.YtahlfndlkfoikaaDoorRegW
import Derived.Lib.LaidTab
namespace Go.Proofs.YtahlfndlkfoikaaDoor
open Go Go.RowKit
theorem below_grow (w : World) (k : Nat) (os : Array Obj) : Below w.heap.size w (Sort.grow (w.drewN k) os) :=
  ⟨rfl, rfl, rfl, by rw [Sort.size_grow]; exact Nat.le_add_right _ _, fun i hi => Sort.heap_grow_old (w.drewN k) os hi⟩
theorem globalIdx {P : Program} {w : World} {n : String} {cs : Array Value} (h : w.var? P n = some cs) : ∃ g, P.globalNamed n = some g ∧ g < w.heap.size := by
  unfold World.var? at h
  obtain ⟨g, hg, h⟩ := Option.bind_eq_some_iff.1 h
  refine ⟨g, hg, ?_⟩
  rcases Nat.lt_or_ge g w.heap.size with hlt | hge
  · exact hlt
  · rw [Array.getElem?_eq_none hge] at h; cases h
theorem tabIs_below {P : Program} {w w' : World} {n : String} {k : IntKind} {zs : List Int} (h : Lib.TabIs P w n k zs) (hb : Below w.heap.size w w') : Lib.TabIs P w' n k zs := by
  obtain ⟨g, hg, hl⟩ := globalIdx h
  unfold Lib.TabIs World.var? at h ⊢
  rw [hg] at h ⊢
  simp only [Option.bind_some] at h ⊢
  rw [hb.block g hl]; exact h
theorem tabIs_of_laid {P : Program} {W : World} {k : IntKind} {L : List (String × DataW Unit)} {n : String} {vals : List Int} {g T te len : Nat} (h : laidMet P L W) (hm : (n, .agg (vals.map fun x => .lit (.int k x))) ∈ L) (hg : P.globalNamed n = some g) (hT : (P.globals[g]?).map (·.type) = some T)
    (ht : P.underlying T = some (.array len te)) (hte : P.underlying te = some (.int k)) (hc : P.cellsOf te = 1) (hl : P.cellsOf T = vals.length) : Lib.TabIs P W n k vals := by
  obtain ⟨ps, hps, _⟩ := h
  obtain ⟨g', t', cs, f, q, hg', ht', hv, hd⟩ := laid_mem hps hm
  obtain rfl := Option.some.inj (hg.symm.trans hg')
  obtain rfl := Option.some.inj (hT.symm.trans ht')
  have h1 := table_cells ht hte hc hd
  obtain ⟨_, _, _, _, hlen, _⟩ := DataW.trod_array ht hd
  unfold Lib.TabIs
  rw [hv]
  congr 1
  apply Array.toList_inj.1
  rw [List.toList_toArray]
  apply List.ext_getElem?
  intro j
  rcases Nat.lt_or_ge j vals.length with hj | hj
  · rw [h1 j hj]; simp [hj]
  · rw [List.getElem?_eq_none (by omega), List.getElem?_eq_none (by simpa using hj)]
/-- The table of Itoa. -/
def TabP (w : World) : Prop := Lib.TabIs Tryd.prog w "internal/strconv.uint64pow10" .u64 Lib.pow10Tab
theorem TabP.below {w w' : World} (h : TabP w) (hb : Below w.heap.size w w') : TabP w' := tabIs_below h hb

/-- The names of an octave. -/
def octA : Array Value := #[.string { data := #[67] }, .string { data := #[67, 35] }, .string { data := #[68] }, .string { data := #[68, 35] }, .string { data := #[69] }, .string { data := #[70] }, .string { data := #[70, 35] }, .string { data := #[71] }, .string { data := #[71, 35] }, .string { data := #[65] }, .string { data := #[65, 35] }, .string { data := #[66] }]
namespace Cha
def octL : List ByteArray := [⟨#[67]⟩, ⟨#[67, 35]⟩, ⟨#[68]⟩, ⟨#[68, 35]⟩, ⟨#[69]⟩, ⟨#[70]⟩, ⟨#[70, 35]⟩, ⟨#[71]⟩, ⟨#[71, 35]⟩, ⟨#[65]⟩, ⟨#[65, 35]⟩, ⟨#[66]⟩]
/-- The name of a note. -/
def nameF (k : Nat) : ByteArray := octL.getD (k % 12) ⟨#[]⟩ ++ ⟨(Lib.itoa (((k / 12 : Nat) : Int) - 1)).toArray⟩
end Cha
theorem octave_any (w : World) : Calls Tryd.prog 43 #[] w fun e w' => e = .returned (.slice (some ⟨w.heap.size, 0, none⟩) 12 12) ∧ w' = w.alloc (.cells octA 9) := by
  go_enter Tryd.func43, Tryd.ntmps43
  go_wp2
  go_ret
  exact ⟨rfl, rfl⟩
theorem itoaI_any (n : Int) (hn : -1 ≤ n ∧ n ≤ 1000000000) (w : World) (hT : TabP w) : Calls Tryd.prog 44 #[.int .i64 n] w fun e w' => e = .returned (.string ⟨(Lib.itoa n).toArray⟩) ∧ Below w.heap.size w w' :=
  (Tryd.strconv_Itoa n (by omega) (by omega) w hT).mono fun _ _ ⟨he, k, os, hw⟩ => ⟨he, by rw [hw]; exact below_grow w k os⟩
/-- What holds behind each operation of a drawn region. -/
def FN (k : Nat) (s1 s2 : ByteArray) (j : Nat) (s : Nat → Value) (w : World) : Prop :=
  match j with
  | 0 => ∃ g, s 7 = .slice (some ⟨g, 0, none⟩) 12 12 ∧ Blk w g 9 octA
  | 1 => s 8 = .int .i64 k
  | 2 => s 9 = .int .i64 ((k % 12 : Nat) : Int)
  | 3 => ∃ g, s 10 = .pointer (some ⟨g, k % 12, none⟩) ∧ Blk w g 9 octA
  | 4 => s 11 = .string s1
  | 5 => s 12 = .int .i64 k
  | 6 => s 13 = .int .i64 ((k / 12 : Nat) : Int)
  | 7 => s 14 = .int .i64 (((k / 12 : Nat) : Int) - 1)
  | 8 => s 15 = .string s2
  | 9 => s 16 = .string (s1 ++ s2)
  | 10 => s 2 = .string (s1 ++ s2)
  | 11 => s 3 = .int .i64 0
  | _ => True
def VN (j : Nat) : List Nat := match j with
  | 0 => [7] | 1 => [8] | 2 => [9] | 3 => [10] | 4 => [11] | 5 => [12] | 6 => [13] | 7 => [14] | 8 => [15] | 9 => [16] | 10 => [2] | 11 => [3] | _ => []
def EN (j : Nat) : Bool := j == 10 || j == 11
theorem FN_V (k : Nat) (s1 s2 : ByteArray) (j : Nat) (s s' : Nat → Value) (w : World) (h : ∀ t, t ∈ VN j → s' t = s t) (hF : FN k s1 s2 j s w) : FN k s1 s2 j s' w := by
  match j with
  | 0 => unfold FN at hF ⊢; simp only at hF ⊢; rw [h 7 (by simp [VN])]; exact hF
  | 1 => unfold FN at hF ⊢; simp only at hF ⊢; rw [h 8 (by simp [VN])]; exact hF
  | 2 => unfold FN at hF ⊢; simp only at hF ⊢; rw [h 9 (by simp [VN])]; exact hF
  | 3 => unfold FN at hF ⊢; simp only at hF ⊢; rw [h 10 (by simp [VN])]; exact hF
  | 4 => unfold FN at hF ⊢; simp only at hF ⊢; rw [h 11 (by simp [VN])]; exact hF
  | 5 => unfold FN at hF ⊢; simp only at hF ⊢; rw [h 12 (by simp [VN])]; exact hF
  | 6 => unfold FN at hF ⊢; simp only at hF ⊢; rw [h 13 (by simp [VN])]; exact hF
  | 7 => unfold FN at hF ⊢; simp only at hF ⊢; rw [h 14 (by simp [VN])]; exact hF
  | 8 => unfold FN at hF ⊢; simp only at hF ⊢; rw [h 15 (by simp [VN])]; exact hF
  | 9 => unfold FN at hF ⊢; simp only at hF ⊢; rw [h 16 (by simp [VN])]; exact hF
  | 10 => unfold FN at hF ⊢; simp only at hF ⊢; rw [h 2 (by simp [VN])]; exact hF
  | 11 => unfold FN at hF ⊢; simp only at hF ⊢; rw [h 3 (by simp [VN])]; exact hF
  | _ + 12 => trivial
theorem FN_below (k : Nat) (s1 s2 : ByteArray) (j : Nat) (s : Nat → Value) (w w' : World) (hb : Below w.heap.size w w') (hF : FN k s1 s2 j s w) : FN k s1 s2 j s w' := by
  match j with
  | 0 => obtain ⟨g, q1, q2⟩ := hF; exact ⟨g, q1, q2.below hb q2.lt⟩
  | 1 => exact hF
  | 2 => exact hF
  | 3 => obtain ⟨g, q1, q2⟩ := hF; exact ⟨g, q1, q2.below hb q2.lt⟩
  | 4 => exact hF
  | 5 => exact hF
  | 6 => exact hF
  | 7 => exact hF
  | 8 => exact hF
  | 9 => exact hF
  | 10 => exact hF
  | 11 => exact hF
  | _ + 12 => trivial
theorem oct_get (j : Nat) (h : j < 12) : octA[j]? = some (.string (Cha.octL.getD j ⟨#[]⟩)) := by
  have : ∀ j : Fin 12, octA[j.val]? = some (.string (Cha.octL.getD j.val ⟨#[]⟩)) := by
    intro j
    match j with
    | ⟨0, _⟩ => rfl
    | ⟨1, _⟩ => rfl
    | ⟨2, _⟩ => rfl
    | ⟨3, _⟩ => rfl
    | ⟨4, _⟩ => rfl
    | ⟨5, _⟩ => rfl
    | ⟨6, _⟩ => rfl
    | ⟨7, _⟩ => rfl
    | ⟨8, _⟩ => rfl
    | ⟨9, _⟩ => rfl
    | ⟨10, _⟩ => rfl
    | ⟨11, _⟩ => rfl
  exact this ⟨j, h⟩
set_option maxRecDepth 100000 in
set_option maxHeartbeats 2000000 in
theorem Name_any (k : Nat) (hk : k ≤ 127) (w : World) (hT : TabP w) : Calls Tryd.prog 17 #[.int .i64 k] w fun e w' => e = .returned (.tuple #[.string (Cha.nameF k), .int .i64 0]) ∧ Below w.heap.size w w' := by
  have hno : Nt.noteB (k : Int) = true := by
    unfold Nt.noteB
    rw [decide_eq_true (show (0 : Int) ≤ k by omega), decide_eq_true (show (k : Int) ≤ 127 by omega)]
    rfl
  have HNO := Lib.hid (fun W => isNote_any (k : Int) W)
  rw [hno] at HNO
  have e3 : IntKind.i64.wrap (((k / 12 : Nat) : Int) - 1) = ((k / 12 : Nat) : Int) - 1 := by
    simp [IntKind.wrap, IntKind.bits, IntKind.signed]
    omega
  have e1' : (k : Int).tmod 12 = (k : Int) % 12 := Int.tmod_eq_emod_of_nonneg (by omega)
  have e2' : IntKind.i64.wrap ((k : Int) / 12) = (k : Int) / 12 := by
    simp [IntKind.wrap, IntKind.bits, IntKind.signed]
    omega
  have hz1 : (Cha.octL.getD (k % 12) ⟨#[]⟩).size ≤ 2 := by
    have : ∀ j : Fin 12, (Cha.octL.getD j.val ⟨#[]⟩).size ≤ 2 := by decide
    exact this ⟨k % 12, by omega⟩
  have hz2 : (⟨(Lib.itoa (((k / 12 : Nat) : Int) - 1)).toArray⟩ : ByteArray).size ≤ 2 := by
    have : ∀ j : Fin 11, (⟨(Lib.itoa ((j.val : Int) - 1)).toArray⟩ : ByteArray).size ≤ 2 := by decide +kernel
    exact this ⟨k / 12, by omega⟩
  obtain ⟨s1, hs1⟩ : ∃ s1, Cha.octL.getD (k % 12) ⟨#[]⟩ = s1 := ⟨_, rfl⟩
  obtain ⟨s2, hs2⟩ : ∃ s2 : ByteArray, (⟨(Lib.itoa (((k / 12 : Nat) : Int) - 1)).toArray⟩ : ByteArray) = s2 := ⟨_, rfl⟩
  rw [hs1] at hz1
  rw [hs2] at hz2
  have hsz : ¬ (9223372036854775807 < s1.size + s2.size) := by omega
  have HS1 : Hid (octA[k % 12]? = some (.string s1)) := Lib.hid (by rw [oct_get _ (by omega), hs1])
  have HIT := Lib.hid (fun W (hb : Below w.heap.size w W) => itoaI_any (((k / 12 : Nat) : Int) - 1) (by omega) W (hT.below hb))
  rw [hs2] at HIT
  have HZ : Hid (Cha.nameF k = s1 ++ s2) := Lib.hid (by unfold Cha.nameF; rw [hs1, hs2])
  have hBB : ∀ (L : Nat → Bool) (i : Nat) (W W' : World), Below W.heap.size W W' → Below w.heap.size w W → Below w.heap.size w W' := fun _ _ _ _ hb h => Bt h hb
  clear hs1 hs2 hT hno hz1 hz2
  go_enter Tryd.func17, Tryd.ntmps17
  go_upto_region 3 with (go_at_call 42; (with_reducible refine ((HNO.out _).mono ?_)); rintro e w2 ⟨rfl, rfl⟩)
  refine region_blocks (by kernel_rfl) ?_
  refine from_lawW 12 EN (fun _ W => Below w.heap.size w W) (FN k s1 s2) VN (by kernel_rfl) rfl (FN_V _ _ _) (by kernel_rfl) (by kernel_rfl) ((B0 w).drew) ⟨?_, ?_, ?_, ?_, ?_, ?_, ?_, ?_, ?_, ?_, ?_, ?_, trivial⟩ ?_
  · refine OpFactW.call rfl (FN_below _ _ _) hBB fun L a wx hl hf D hb => ?_
    refine ⟨43, #[], ?_, (octave_any wx).mono ?_⟩
    · simp [go_sem]
    · rintro e w' ⟨rfl, rfl⟩
      exact ⟨_, rfl, Ba (B0 _) _, fun s _ h => ⟨_, h 7 rfl, Blk.new _ _ _⟩⟩
  · refine OpFactW.value rfl (FN_below _ _ _) hBB fun L a wx hl hf D hb => ?_
    have h0 : sl a 0 = .int .i64 k := hf 0 (by kernel_rfl)
    refine ⟨.int .i64 k, wx, ?_, B0 _, fun s _ h => h 8 rfl⟩
    unfold sl at h0
    simp [go_sem, h0]
  · refine OpFactW.value rfl (FN_below _ _ _) hBB fun L a wx hl hf D hb => ?_
    have h1 : sl a 8 = .int .i64 k := D 1 (by kernel_rfl)
    refine ⟨.int .i64 ((k % 12 : Nat) : Int), wx, ?_, B0 _, fun s _ h => h 9 rfl⟩
    unfold sl at h1
    simp at h1
    simp [go_sem, h1, e1']
  · refine OpFactW.value rfl (FN_below _ _ _) hBB fun L a wx hl hf D hb => ?_
    obtain ⟨g, h1, hK⟩ : ∃ g, sl a 7 = .slice (some ⟨g, 0, none⟩) 12 12 ∧ Blk wx g 9 octA := D 0 (by kernel_rfl)
    have h2 : sl a 9 = .int .i64 ((k % 12 : Nat) : Int) := D 2 (by kernel_rfl)
    refine ⟨.pointer (some ⟨g, k % 12, none⟩), wx, ?_, B0 _, fun s _ h => ⟨g, h 10 rfl, hK⟩⟩
    unfold sl at h1 h2
    simp at h1 h2
    have hm : ((k : Int) % 12) < 12 := by omega
    have hm2 : (0 : Int) ≤ (k : Int) % 12 := by omega
    have ht : ((k : Int) % 12).toNat = k % 12 := by omega
    unfold execOp
    simp [go_sem, Act.eval, h1, h2, hm, hm2, ht, Addr.add]
    intro h; omega
  · refine OpFactW.value rfl (FN_below _ _ _) hBB fun L a wx hl hf D hb => ?_
    obtain ⟨g, h1, hK⟩ : ∃ g, sl a 10 = .pointer (some ⟨g, k % 12, none⟩) ∧ Blk wx g 9 octA := D 3 (by kernel_rfl)
    have hc := hK.cell (k % 12)
    rw [HS1.out] at hc
    refine ⟨.string s1, wx, ?_, B0 _, fun s _ h => h 11 rfl⟩
    unfold sl at h1
    simp at h1
    simp [go_sem, h1, hc]
  · refine OpFactW.value rfl (FN_below _ _ _) hBB fun L a wx hl hf D hb => ?_
    have h0 : sl a 0 = .int .i64 k := hf 0 (by kernel_rfl)
    refine ⟨.int .i64 k, wx, ?_, B0 _, fun s _ h => h 12 rfl⟩
    unfold sl at h0
    simp [go_sem, h0]
  · refine OpFactW.value rfl (FN_below _ _ _) hBB fun L a wx hl hf D hb => ?_
    have h1 : sl a 12 = .int .i64 k := D 5 (by kernel_rfl)
    refine ⟨.int .i64 ((k / 12 : Nat) : Int), wx, ?_, B0 _, fun s _ h => h 13 rfl⟩
    unfold sl at h1
    simp at h1
    simp [go_sem, h1, e2']
  · refine OpFactW.value rfl (FN_below _ _ _) hBB fun L a wx hl hf D hb => ?_
    have h1 : sl a 13 = .int .i64 ((k / 12 : Nat) : Int) := D 6 (by kernel_rfl)
    refine ⟨.int .i64 (((k / 12 : Nat) : Int) - 1), wx, ?_, B0 _, fun s _ h => h 14 rfl⟩
    unfold sl at h1
    simp at h1
    have e3' : IntKind.i64.wrap ((k : Int) / 12 - 1) = (k : Int) / 12 - 1 := by simpa using e3
    simp [go_sem, h1, e3']
  · refine OpFactW.call rfl (FN_below _ _ _) hBB fun L a wx hl hf D hb => ?_
    have h1 : sl a 14 = .int .i64 (((k / 12 : Nat) : Int) - 1) := D 7 (by kernel_rfl)
    refine ⟨44, #[.int .i64 (((k / 12 : Nat) : Int) - 1)], ?_, (HIT.out wx hb).mono ?_⟩
    · unfold sl at h1
      simp at h1
      simp [go_sem, h1]
    · rintro e w' ⟨rfl, hb2⟩
      exact ⟨_, rfl, hb2, fun s _ h => h 15 rfl⟩
  · refine OpFactW.value rfl (FN_below _ _ _) hBB fun L a wx hl hf D hb => ?_
    have h1 : sl a 11 = .string s1 := D 4 (by kernel_rfl)
    have h2 : sl a 15 = .string s2 := D 8 (by kernel_rfl)
    refine ⟨.string (s1 ++ s2), wx, ?_, B0 _, fun s _ h => h 16 rfl⟩
    unfold sl at h1 h2
    simp at h1 h2
    unfold execOp
    simp [go_sem, Act.eval, h1, h2, hsz]
  · refine OpFactW.value rfl (FN_below _ _ _) hBB fun L a wx hl hf D hb => ?_
    have h1 : sl a 16 = .string (s1 ++ s2) := D 9 (by kernel_rfl)
    refine ⟨.string (s1 ++ s2), wx, ?_, B0 _, fun s _ h => h 2 rfl⟩
    unfold sl at h1
    simp at h1
    simp [go_sem, h1]
  · refine OpFactW.value rfl (FN_below _ _ _) hBB fun L a wx hl hf D hb => ?_
    refine ⟨.int .i64 0, wx, ?_, B0 _, fun s _ h => h 3 rfl⟩
    simp [go_sem]
  · intro L y w9 hb9 hF9
    have h2 : y 2 = .string (s1 ++ s2) := hF9 10 (by decide) rfl
    have h3 : y 3 = .int .i64 0 := hF9 11 (by decide) rfl
    clear hF9
    rw [aft12 (d0 := 7) (d1 := 8) (d2 := 9) (d3 := 10) (d4 := 11) (d5 := 12) (d6 := 13) (d7 := 14) (d8 := 15) (d9 := 16) (d10 := 2) (d11 := 3) (by kernel_rfl) rfl]
    rw [h2, h3]
    simp only [List.set_cons_succ, List.set_cons_zero]
    refine from_end rfl ?_
    go_wp2_with fail
    go_ret2
    exact ⟨by rw [HZ.out]; rfl, hb9⟩
end Go.Proofs.YtahlfndlkfoikaaDoor
