/- Walk over law 14: Make (its drawn region printed by mk14.py). -/
import Derived.Test.YtnfpjcjlapljjaaGreatDoorQ4
import Derived.Test.YtnfpjcjlapljjaaGreatDoorRegW
import Derived.Test.YtnfpjcjlapljjaaGreatDoorNe
namespace Go.Proofs.YtnfpjcjlapljjaaGreatDoor
open Go Go.RowKit Go.Shelf
def tones : Array Value := #[.string ⟨#[79, 112, 101, 110]⟩, .string ⟨#[70, 108, 117, 116, 101]⟩, .string ⟨#[82, 101, 101, 100]⟩]
def rnk0 : Array Value := #[.string ⟨#[]⟩, .string ⟨#[]⟩, .int .i64 0, .int .i64 0, .int .i64 0, .slice none 0 0]
def bytA (w : World) (v : Value) (i : Nat) : Prop := ∃ g, v = .slice (some ⟨g, 0, none⟩) 1 1 ∧ Blk w g 5 #[.int .u8 (48 + (i : Int))]
def tonA (w : World) (v : Value) : Prop := ∃ g, v = .slice (some ⟨g, 0, none⟩) 3 3 ∧ Blk w g 9 tones
def tonP (w : World) (v : Value) (r : Nat) : Prop := ∃ g, v = .pointer (some ⟨g, r, none⟩) ∧ Blk w g 9 tones
def rnkA (w : World) (v : Value) (lim : Nat) : Prop := ∃ g, v = .pointer (some ⟨g, 0, none⟩) ∧ lim ≤ g ∧ Blk w g 84 rnk0
theorem bytA_below {w w' : World} {v : Value} {i : Nat} (h : bytA w v i) (hb : Below w.heap.size w w') : bytA w' v i := by
  obtain ⟨g, e, hk⟩ := h
  exact ⟨g, e, hk.below hb hk.lt⟩
theorem tonA_below {w w' : World} {v : Value} (h : tonA w v) (hb : Below w.heap.size w w') : tonA w' v := by
  obtain ⟨g, e, hk⟩ := h
  exact ⟨g, e, hk.below hb hk.lt⟩
theorem tonP_below {w w' : World} {v : Value} {r : Nat} (h : tonP w v r) (hb : Below w.heap.size w w') : tonP w' v r := by
  obtain ⟨g, e, hk⟩ := h
  exact ⟨g, e, hk.below hb hk.lt⟩
theorem rnkA_below {w w' : World} {v : Value} {lim : Nat} (h : rnkA w v lim) (hb : Below w.heap.size w w') : rnkA w' v lim := by
  obtain ⟨g, e, hl, hk⟩ := h
  exact ⟨g, e, hl, hk.below hb hk.lt⟩
/-- The digit of a number less than ten, as text. -/
def digS (i : Nat) : ByteArray := ⟨#[UInt8.ofNat (48 + i)]⟩
def tonS (r : Nat) : ByteArray := [(⟨#[79, 112, 101, 110]⟩ : ByteArray), ⟨#[70, 108, 117, 116, 101]⟩, ⟨#[82, 101, 101, 100]⟩].getD r ⟨#[]⟩
theorem tones_get (r : Nat) (hr : r < 3) : tones[r]? = some (.string (tonS r)) := by
  have h : r = 0 ∨ r = 1 ∨ r = 2 := by omega
  rcases h with rfl | rfl | rfl <;> rfl
theorem dig_conv (i : Nat) (hi : i < 10) (W : World) (g : Nat) (h : Blk W g 5 #[.int .u8 (48 + (i : Int))]) : (convert 132 9 (.slice (some ⟨g, 0, none⟩) 1 1)).run Tryz.prog W = .ok (.string (digS i)) W := by
  exact run_convert_bytes_back (P := Tryz.prog) W 132 9 5 ⟨g, 0, none⟩ 1 [UInt8.ofNat (48 + i)] Tryz.underlying132 Tryz.underlying5 Tryz.underlying9 (fun j hj => by
    obtain rfl : j = 0 := by simp at hj; omega
    have h0 := h.cell 0
    have e : ((UInt8.ofNat (48 + i)).toNat : Int) = 48 + (i : Int) := by
      have : (UInt8.ofNat (48 + i)).toNat = 48 + i := by simp; omega
      omega
    simp [Addr.add]
    simp at h0
    rw [h0]
    simp at e
    simp [e])
namespace Org
/-- Law 14's plan of a rank. -/
structure P14 where
  t : Nat
  f : Nat
  fi : Int
  p : Nat
  w0 : Nat
  w1 : Nat
  w2 : Nat
  w3 : Nat
  w4 : Nat
def P14.cs (x : P14) : List Value := [.int .u8 (x.t : Int), .int .u8 (x.f : Int), .int .i8 x.fi, .int .u8 (x.p : Int), .int .u8 (x.w0 : Int), .int .u8 (x.w1 : Int), .int .u8 (x.w2 : Int), .int .u8 (x.w3 : Int), .int .u8 (x.w4 : Int)]
def P14.wn (x : P14) (r : Nat) : Nat := match r with | 0 => x.w0 | 1 => x.w1 | 2 => x.w2 | 3 => x.w3 | _ => x.w4
structure P14.Ok (x : P14) : Prop where
  t : x.t < 256
  f : x.f < 256
  fi : -128 ≤ x.fi ∧ x.fi ≤ 127
  p : x.p < 256
  w : ∀ r, x.wn r < 256
/-- The rank of a plan. -/
def mkRnk (x : P14) (i : Nat) : Rnk := ⟨⟨#[82]⟩ ++ digS i, tonS (x.t % 3), ((ft02 (x.f % 16)).1 : Int), ((ft02 (x.f % 16)).2 : Int), x.fi, (List.range (1 + x.p % 25)).map fun k => (x.wn (k % 5) : Int)⟩
theorem P14.cs_w (x : P14) (r : Nat) (hr : r < 5) : x.cs[4 + r]? = some (.int .u8 (x.wn r : Int)) := by
  have h : r = 0 ∨ r = 1 ∨ r = 2 ∨ r = 3 ∨ r = 4 := by omega
  rcases h with rfl | rfl | rfl | rfl | rfl <;> rfl
end Org
/-- What holds behind each operation of a drawn region. -/
def FM14 (b i r f : Nat) (fi : Int) (t : Nat) (dg nm tn : ByteArray) (fa fd lim : Nat) (j : Nat) (s : Nat → Value) (w : World) : Prop :=
  match j with
  | 0 => s 7 = .int .i64 (i : Int)
  | 1 => s 8 = .int .i64 (i : Int)
  | 2 => s 9 = .int .i64 (48 + (i : Int))
  | 3 => s 10 = .int .u8 (48 + (i : Int))
  | 4 => bytA w (s 11) i
  | 5 => s 12 = .string dg
  | 6 => s 13 = .string nm
  | 7 => tonA w (s 14)
  | 8 => s 15 = .pointer (some ⟨b, 0, none⟩)
  | 9 => s 16 = .int .u8 (t : Int)
  | 10 => s 17 = .int .u8 (r : Int)
  | 11 => tonP w (s 18) r
  | 12 => s 19 = .string tn
  | 13 => s 20 = .pointer (some ⟨b, 1, none⟩)
  | 14 => s 21 = .int .u8 (f : Int)
  | 15 => s 22 = .agg #[.int .i64 (fa : Int), .int .i64 (fd : Int)]
  | 16 => s 23 = .pointer (some ⟨b, 2, none⟩)
  | 17 => s 24 = .int .i8 fi
  | 18 => s 25 = .int .i64 fi
  | 19 => s 26 = .agg #[.string nm, .string tn, .int .i64 (fa : Int), .int .i64 (fd : Int), .int .i64 fi, .slice none 0 0]
  | 20 => rnkA w (s 5) lim
  | _ => True
def VM14 (j : Nat) : List Nat := match j with
  | 0 => [7] | 1 => [8] | 2 => [9] | 3 => [10] | 4 => [11] | 5 => [12] | 6 => [13] | 7 => [14] | 8 => [15] | 9 => [16] | 10 => [17] | 11 => [18] | 12 => [19] | 13 => [20] | 14 => [21] | 15 => [22] | 16 => [23] | 17 => [24] | 18 => [25] | 19 => [26] | 20 => [5] | _ => []
def EM14 (j : Nat) : Bool := j == 19 || j == 20
theorem FM14_V (b i r f : Nat) (fi : Int) (t : Nat) (dg nm tn : ByteArray) (fa fd lim : Nat) (j : Nat) (s s' : Nat → Value) (w : World) (h : ∀ t, t ∈ VM14 j → s' t = s t) (hF : FM14 b i r f fi t dg nm tn fa fd lim j s w) : FM14 b i r f fi t dg nm tn fa fd lim j s' w := by
  match j with
  | 0 => unfold FM14 at hF ⊢; simp only at hF ⊢; rw [h 7 (by simp [VM14])]; exact hF
  | 1 => unfold FM14 at hF ⊢; simp only at hF ⊢; rw [h 8 (by simp [VM14])]; exact hF
  | 2 => unfold FM14 at hF ⊢; simp only at hF ⊢; rw [h 9 (by simp [VM14])]; exact hF
  | 3 => unfold FM14 at hF ⊢; simp only at hF ⊢; rw [h 10 (by simp [VM14])]; exact hF
  | 4 => unfold FM14 at hF ⊢; simp only at hF ⊢; rw [h 11 (by simp [VM14])]; exact hF
  | 5 => unfold FM14 at hF ⊢; simp only at hF ⊢; rw [h 12 (by simp [VM14])]; exact hF
  | 6 => unfold FM14 at hF ⊢; simp only at hF ⊢; rw [h 13 (by simp [VM14])]; exact hF
  | 7 => unfold FM14 at hF ⊢; simp only at hF ⊢; rw [h 14 (by simp [VM14])]; exact hF
  | 8 => unfold FM14 at hF ⊢; simp only at hF ⊢; rw [h 15 (by simp [VM14])]; exact hF
  | 9 => unfold FM14 at hF ⊢; simp only at hF ⊢; rw [h 16 (by simp [VM14])]; exact hF
  | 10 => unfold FM14 at hF ⊢; simp only at hF ⊢; rw [h 17 (by simp [VM14])]; exact hF
  | 11 => unfold FM14 at hF ⊢; simp only at hF ⊢; rw [h 18 (by simp [VM14])]; exact hF
  | 12 => unfold FM14 at hF ⊢; simp only at hF ⊢; rw [h 19 (by simp [VM14])]; exact hF
  | 13 => unfold FM14 at hF ⊢; simp only at hF ⊢; rw [h 20 (by simp [VM14])]; exact hF
  | 14 => unfold FM14 at hF ⊢; simp only at hF ⊢; rw [h 21 (by simp [VM14])]; exact hF
  | 15 => unfold FM14 at hF ⊢; simp only at hF ⊢; rw [h 22 (by simp [VM14])]; exact hF
  | 16 => unfold FM14 at hF ⊢; simp only at hF ⊢; rw [h 23 (by simp [VM14])]; exact hF
  | 17 => unfold FM14 at hF ⊢; simp only at hF ⊢; rw [h 24 (by simp [VM14])]; exact hF
  | 18 => unfold FM14 at hF ⊢; simp only at hF ⊢; rw [h 25 (by simp [VM14])]; exact hF
  | 19 => unfold FM14 at hF ⊢; simp only at hF ⊢; rw [h 26 (by simp [VM14])]; exact hF
  | 20 => unfold FM14 at hF ⊢; simp only at hF ⊢; rw [h 5 (by simp [VM14])]; exact hF
  | _ + 21 => trivial
theorem FM14_below (b i r f : Nat) (fi : Int) (t : Nat) (dg nm tn : ByteArray) (fa fd lim : Nat) (j : Nat) (s : Nat → Value) (w w' : World) (hb : Below w.heap.size w w') (hF : FM14 b i r f fi t dg nm tn fa fd lim j s w) : FM14 b i r f fi t dg nm tn fa fd lim j s w' := by
  match j with
  | 0 => exact hF
  | 1 => exact hF
  | 2 => exact hF
  | 3 => exact hF
  | 4 => exact bytA_below hF hb
  | 5 => exact hF
  | 6 => exact hF
  | 7 => exact tonA_below hF hb
  | 8 => exact hF
  | 9 => exact hF
  | 10 => exact hF
  | 11 => exact tonP_below hF hb
  | 12 => exact hF
  | 13 => exact hF
  | 14 => exact hF
  | 15 => exact hF
  | 16 => exact hF
  | 17 => exact hF
  | 18 => exact hF
  | 19 => exact hF
  | 20 => exact rnkA_below hF hb
  | _ + 21 => trivial
set_option maxRecDepth 100000 in
set_option maxHeartbeats 4000000 in
theorem mk14_any (x : Org.P14) (hx : x.Ok) (i : Nat) (hi : i < 10) (w : World) :
    Calls Tryz.prog 41 #[.agg x.cs.toArray, .int .i64 (i : Int)] w fun e w' => ∃ cs, e = .returned (.agg cs.toArray) ∧ cs.length = 6 ∧ RnkC (fun b => w.heap.size ≤ b ∧ b < w'.heap.size) w' cs (Org.mkRnk x i) ∧ Below w.heap.size w w' := by
  have HXO := Lib.hid hx
  have ht := hx.t
  have hf := hx.f
  have hfi := hx.fi
  have hp := hx.p
  have hwn := fun r hr => Org.P14.cs_w x r hr
  obtain ⟨xw, hxw⟩ : ∃ xw, x.wn = xw := ⟨_, rfl⟩
  have hMK : Org.mkRnk x i = ⟨⟨#[82]⟩ ++ digS i, tonS (x.t % 3), ((Org.ft02 (x.f % 16)).1 : Int), ((Org.ft02 (x.f % 16)).2 : Int), x.fi, (List.range (1 + x.p % 25)).map fun k => (x.wn (k % 5) : Int)⟩ := rfl
  have hww : ∀ r, xw r < 256 := by rw [← hxw]; exact hx.w
  rw [hxw] at hwn hMK
  clear hxw hx
  revert ht hf hfi hp hwn hMK HXO
  obtain ⟨t, f, fi, p, w0, w1', w2', w3', w4'⟩ := x
  unfold Org.P14.cs
  dsimp only
  intro HXO ht hf hfi hp hwn hMK
  obtain ⟨pa, hpa⟩ : ∃ pa : Array Value, #[.int .u8 (t : Int), .int .u8 (f : Int), .int .i8 fi, .int .u8 (p : Int), .int .u8 (w0 : Int), .int .u8 (w1' : Int), .int .u8 (w2' : Int), .int .u8 (w3' : Int), .int .u8 (w4' : Int)] = pa := ⟨_, rfl⟩
  obtain ⟨w1, hw1⟩ : ∃ w1 : World, (w.alloc (.cells #[.int .u8 (t : Int), .int .u8 (f : Int), .int .i8 fi, .int .u8 (p : Int), .int .u8 (w0 : Int), .int .u8 (w1' : Int), .int .u8 (w2' : Int), .int .u8 (w3' : Int), .int .u8 (w4' : Int)] 131)).alloc (.cells #[.string ⟨#[]⟩, .string ⟨#[]⟩, .int .i64 0, .int .i64 0, .int .i64 0, .slice none 0 0] 84) = w1 := ⟨_, rfl⟩
  obtain ⟨b, hb⟩ : ∃ b, w.heap.size = b := ⟨_, rfl⟩
  have C1 : Blk w1 b 131 #[.int .u8 (t : Int), .int .u8 (f : Int), .int .i8 fi, .int .u8 (p : Int), .int .u8 (w0 : Int), .int .u8 (w1' : Int), .int .u8 (w2' : Int), .int .u8 (w3' : Int), .int .u8 (w4' : Int)] := by rw [← hw1, ← hb]; exact (Blk.new _ _ _).alloc _
  have hB1 : Below w.heap.size w w1 := by rw [← hw1]; exact Ba (Ba (B0 w) _) _
  have HSC := Lib.hid (fun W (hb : Below w1.heap.size w1 W) => (show W.cell? ⟨b, 0, none⟩ = some (.int .u8 (t : Int)) ∧ W.cell? ⟨b, 1, none⟩ = some (.int .u8 (f : Int)) ∧ W.cell? ⟨b, 2, none⟩ = some (.int .i8 fi) from
    ⟨(Bc hb C1.lt).trans (by simpa using C1.cell 0), (Bc hb C1.lt).trans (by simpa using C1.cell 1), (Bc hb C1.lt).trans (by simpa using C1.cell 2)⟩))
  have HC1 := Lib.hid C1
  have HC2 : Hid (Blk w1 (b + 1) 84 #[.string ⟨#[]⟩, .string ⟨#[]⟩, .int .i64 0, .int .i64 0, .int .i64 0, .slice none 0 0]) := Lib.hid (by
    rw [← hw1, ← hb]
    have h := Blk.new (w.alloc (.cells #[.int .u8 (t : Int), .int .u8 (f : Int), .int .i8 fi, .int .u8 (p : Int), .int .u8 (w0 : Int), .int .u8 (w1' : Int), .int .u8 (w2' : Int), .int .u8 (w3' : Int), .int .u8 (w4' : Int)] 131)) 84 #[.string ⟨#[]⟩, .string ⟨#[]⟩, .int .i64 0, .int .i64 0, .int .i64 0, .slice none 0 0]
    simpa using h)
  obtain ⟨r, hr⟩ : ∃ r, t % 3 = r := ⟨_, rfl⟩
  have hr3 : (t : Int) % 3 = (r : Int) := by omega
  have hr3' : (t : Int).tmod 3 = (r : Int) := by rw [Int.tmod_eq_emod_of_nonneg (by omega)]; omega
  have hr30 : (r : Int) < 3 := by omega
  obtain ⟨tn, htn'⟩ : ∃ tn, tonS r = tn := ⟨_, rfl⟩
  have htn : tones[r]? = some (.string tn) := by rw [← htn']; exact tones_get r (by omega)
  obtain ⟨dg, hdg⟩ : ∃ dg, digS i = dg := ⟨_, rfl⟩
  obtain ⟨nm, hnm⟩ : ∃ nm, (⟨#[82]⟩ : ByteArray) ++ dg = nm := ⟨_, rfl⟩
  have hdl : 1 + dg.size ≤ 9223372036854775807 := by rw [← hdg]; show 1 + 1 ≤ _; omega
  have HCV := Lib.hid (fun W g (h : Blk W g 5 #[.int .u8 (48 + (i : Int))]) => dig_conv i hi W g h)
  rw [hdg] at HCV
  have HFT := Lib.hid (fun W => feet02_any f hf W)
  obtain ⟨fa, hfa⟩ : ∃ x, (Org.ft02 (f % 16)).1 = x := ⟨_, rfl⟩
  obtain ⟨fd, hfd⟩ : ∃ x, (Org.ft02 (f % 16)).2 = x := ⟨_, rfl⟩
  rw [hfa, hfd] at HFT
  unfold ftV at HFT
  have hm10 : (i : Int).tmod 10 = (i : Int) := by rw [Int.tmod_eq_emod_of_nonneg (by omega)]; omega
  have hw48 : IntKind.i64.wrap (48 + (i : Int)) = 48 + (i : Int) := by rw [IntKind.wrap_i64]; omega
  have hi10 : (i : Int) < 10 := by omega
  have hw8 : IntKind.u8.wrap (48 + (i : Int)) = 48 + (i : Int) := by rw [IntKind.wrap_u8]; omega
  have hw64 : IntKind.i64.wrap fi = fi := by rw [IntKind.wrap_i64]; omega
  have hBB : ∀ (L : Nat → Bool) (i : Nat) (w w' : World), Below w.heap.size w w' → Below w1.heap.size w1 w → Below w1.heap.size w1 w' := fun _ _ _ _ h1 h2 => Bt h2 h1
  have HB1 := Lib.hid hB1
  have HNM : Hid (⟨#[82]⟩ ++ digS i = nm ∧ tonS (t % 3) = tn ∧ (Org.ft02 (f % 16)).1 = fa ∧ (Org.ft02 (f % 16)).2 = fd) := Lib.hid ⟨by rw [hdg]; exact hnm, by rw [hr]; exact htn', hfa, hfd⟩
  have HSZ1 : Hid (b + 2 = w1.heap.size) := Lib.hid (by rw [← hw1, ← hb]; simp)
  have HW1 := Lib.hid hw1
  have HBB := Lib.hid hb
  clear hpa C1 hB1 hw1 hb hr htn' hdg hfa hfd
  go_enter Tryz.func41, Tryz.ntmps41
  go_upto_region 1 with fail
  rw [HW1.out, HBB.out]
  refine region_blocks (by kernel_rfl) ?_
  refine from_lawW 21 EM14 (fun _ W => Below w1.heap.size w1 W) (FM14 b i r f fi t dg nm tn fa fd w1.heap.size) VM14 (by kernel_rfl) rfl (FM14_V _ _ _ _ _ _ _ _ _ _ _ _) (by kernel_rfl) (by kernel_rfl) ((B0 w1).drew) ⟨?_, ?_, ?_, ?_, ?_, ?_, ?_, ?_, ?_, ?_, ?_, ?_, ?_, ?_, ?_, ?_, ?_, ?_, ?_, ?_, ?_, trivial⟩ ?_
  · refine OpFactW.value rfl (FM14_below _ _ _ _ _ _ _ _ _ _ _ _) hBB fun L a w2 hl hf D hb => ?_
    have h0 : sl a 1 = .int .i64 (i : Int) := hf 1 (by kernel_rfl)
    refine ⟨.int .i64 (i : Int), w2, ?_, B0 _, fun s _ h => h 7 rfl⟩
    unfold sl at h0
    simp [go_sem, h0]
  · refine OpFactW.value rfl (FM14_below _ _ _ _ _ _ _ _ _ _ _ _) hBB fun L a w2 hl hf D hb => ?_
    have h11 : sl a 7 = .int .i64 (i : Int) := D 0 (by kernel_rfl)
    refine ⟨.int .i64 (i : Int), w2, ?_, B0 _, fun s _ h => h 8 rfl⟩
    unfold sl at h11
    simp at h11
    simp [go_sem, h11, hm10]
  · refine OpFactW.value rfl (FM14_below _ _ _ _ _ _ _ _ _ _ _ _) hBB fun L a w2 hl hf D hb => ?_
    have h11 : sl a 8 = .int .i64 (i : Int) := D 1 (by kernel_rfl)
    refine ⟨.int .i64 (48 + (i : Int)), w2, ?_, B0 _, fun s _ h => h 9 rfl⟩
    unfold sl at h11
    simp at h11
    simp [go_sem, h11, hw48]
  · refine OpFactW.value rfl (FM14_below _ _ _ _ _ _ _ _ _ _ _ _) hBB fun L a w2 hl hf D hb => ?_
    have h11 : sl a 9 = .int .i64 (48 + (i : Int)) := D 2 (by kernel_rfl)
    refine ⟨.int .u8 (48 + (i : Int)), w2, ?_, B0 _, fun s _ h => h 10 rfl⟩
    unfold sl at h11
    simp at h11
    simp [go_sem, h11, hw8]
  · refine OpFactW.value rfl (FM14_below _ _ _ _ _ _ _ _ _ _ _ _) hBB fun L a w2 hl hf D hb => ?_
    have h11 : sl a 10 = .int .u8 (48 + (i : Int)) := D 3 (by kernel_rfl)
    refine ⟨.slice (some ⟨w2.heap.size, 0, none⟩) 1 1, w2.alloc (.cells #[.int .u8 (48 + (i : Int))] 5), ?_, Ba (B0 w2) _, fun s _ h => ⟨_, h 11 rfl, Blk.new _ _ _⟩⟩
    unfold sl at h11
    simp at h11
    simp [go_sem, h11]
  · refine OpFactW.value rfl (FM14_below _ _ _ _ _ _ _ _ _ _ _ _) hBB fun L a w2 hl hf D hb => ?_
    obtain ⟨g, h11, hk⟩ : bytA w2 (sl a 11) i := D 4 (by kernel_rfl)
    have hc := HCV.out w2 g hk
    refine ⟨.string dg, w2, ?_, B0 _, fun s _ h => h 12 rfl⟩
    unfold sl at h11
    simp at h11
    simp [go_sem, h11, hc]
  · refine OpFactW.value rfl (FM14_below _ _ _ _ _ _ _ _ _ _ _ _) hBB fun L a w2 hl hf D hb => ?_
    have h11 : sl a 12 = .string dg := D 5 (by kernel_rfl)
    refine ⟨.string nm, w2, ?_, B0 _, fun s _ h => h 13 rfl⟩
    unfold sl at h11
    simp at h11
    simp [go_sem, h11, hnm, hdl]
  · refine OpFactW.value rfl (FM14_below _ _ _ _ _ _ _ _ _ _ _ _) hBB fun L a w2 hl hf D hb => ?_
    refine ⟨.slice (some ⟨w2.heap.size, 0, none⟩) 3 3, w2.alloc (.cells tones 9), ?_, Ba (B0 w2) _, fun s _ h => ⟨_, h 14 rfl, Blk.new _ _ _⟩⟩
    unfold tones
    simp [go_sem]
  · refine OpFactW.value rfl (FM14_below _ _ _ _ _ _ _ _ _ _ _ _) hBB fun L a w2 hl hf D hb => ?_
    have h0 : sl a 2 = .pointer (some ⟨b, 0, none⟩) := hf 2 (by kernel_rfl)
    refine ⟨.pointer (some ⟨b, 0, none⟩), w2, ?_, B0 _, fun s _ h => h 15 rfl⟩
    unfold sl at h0
    simp at h0
    simp [go_sem, h0]
  · refine OpFactW.value rfl (FM14_below _ _ _ _ _ _ _ _ _ _ _ _) hBB fun L a w2 hl hf D hb => ?_
    have h0 : sl a 15 = .pointer (some ⟨b, 0, none⟩) := D 8 (by kernel_rfl)
    have es := HSC.out w2 hb
    refine ⟨.int .u8 (t : Int), w2, ?_, B0 _, fun s _ h => h 16 rfl⟩
    unfold sl at h0
    simp at h0
    simp [go_sem, h0, es]
  · refine OpFactW.value rfl (FM14_below _ _ _ _ _ _ _ _ _ _ _ _) hBB fun L a w2 hl hf D hb => ?_
    have h11 : sl a 16 = .int .u8 (t : Int) := D 9 (by kernel_rfl)
    refine ⟨.int .u8 (r : Int), w2, ?_, B0 _, fun s _ h => h 17 rfl⟩
    unfold sl at h11
    simp at h11
    simp [go_sem, h11, hr3']
  · refine OpFactW.value rfl (FM14_below _ _ _ _ _ _ _ _ _ _ _ _) hBB fun L a w2 hl hf D hb => ?_
    obtain ⟨g, h11, hk⟩ : tonA w2 (sl a 14) := D 7 (by kernel_rfl)
    have h12 : sl a 17 = .int .u8 (r : Int) := D 10 (by kernel_rfl)
    refine ⟨.pointer (some ⟨g, r, none⟩), w2, ?_, B0 _, fun s _ h => ⟨g, h 18 rfl, hk⟩⟩
    unfold sl at h11 h12
    simp at h11 h12
    simp [go_sem, h11, h12, hr30]
  · refine OpFactW.value rfl (FM14_below _ _ _ _ _ _ _ _ _ _ _ _) hBB fun L a w2 hl hf D hb => ?_
    obtain ⟨g, h11, hk⟩ : tonP w2 (sl a 18) r := D 11 (by kernel_rfl)
    have es : w2.cell? ⟨g, r, none⟩ = some (.string tn) := (Blk.cell hk r).trans htn
    refine ⟨.string tn, w2, ?_, B0 _, fun s _ h => h 19 rfl⟩
    unfold sl at h11
    simp at h11
    simp [go_sem, h11, es]
  · refine OpFactW.value rfl (FM14_below _ _ _ _ _ _ _ _ _ _ _ _) hBB fun L a w2 hl hf D hb => ?_
    have h0 : sl a 2 = .pointer (some ⟨b, 0, none⟩) := hf 2 (by kernel_rfl)
    refine ⟨.pointer (some ⟨b, 1, none⟩), w2, ?_, B0 _, fun s _ h => h 20 rfl⟩
    unfold sl at h0
    simp at h0
    simp [go_sem, h0]
  · refine OpFactW.value rfl (FM14_below _ _ _ _ _ _ _ _ _ _ _ _) hBB fun L a w2 hl hf D hb => ?_
    have h0 : sl a 20 = .pointer (some ⟨b, 1, none⟩) := D 13 (by kernel_rfl)
    have es := HSC.out w2 hb
    refine ⟨.int .u8 (f : Int), w2, ?_, B0 _, fun s _ h => h 21 rfl⟩
    unfold sl at h0
    simp at h0
    simp [go_sem, h0, es]
  · refine OpFactW.call rfl (FM14_below _ _ _ _ _ _ _ _ _ _ _ _) hBB fun L a w2 hl hf D hb => ?_
    have h11 : sl a 21 = .int .u8 (f : Int) := D 14 (by kernel_rfl)
    refine ⟨56, #[.int .u8 (f : Int)], ?_, (HFT.out w2).mono ?_⟩
    · unfold sl at h11
      simp at h11
      simp [go_sem, h11]
    · rintro e w' ⟨rfl, hb3⟩
      exact ⟨_, rfl, hb3, fun s _ h => h 22 rfl⟩
  · refine OpFactW.value rfl (FM14_below _ _ _ _ _ _ _ _ _ _ _ _) hBB fun L a w2 hl hf D hb => ?_
    have h0 : sl a 2 = .pointer (some ⟨b, 0, none⟩) := hf 2 (by kernel_rfl)
    refine ⟨.pointer (some ⟨b, 2, none⟩), w2, ?_, B0 _, fun s _ h => h 23 rfl⟩
    unfold sl at h0
    simp at h0
    simp [go_sem, h0]
  · refine OpFactW.value rfl (FM14_below _ _ _ _ _ _ _ _ _ _ _ _) hBB fun L a w2 hl hf D hb => ?_
    have h0 : sl a 23 = .pointer (some ⟨b, 2, none⟩) := D 16 (by kernel_rfl)
    have es := HSC.out w2 hb
    refine ⟨.int .i8 fi, w2, ?_, B0 _, fun s _ h => h 24 rfl⟩
    unfold sl at h0
    simp at h0
    simp [go_sem, h0, es]
  · refine OpFactW.value rfl (FM14_below _ _ _ _ _ _ _ _ _ _ _ _) hBB fun L a w2 hl hf D hb => ?_
    have h11 : sl a 24 = .int .i8 fi := D 17 (by kernel_rfl)
    refine ⟨.int .i64 fi, w2, ?_, B0 _, fun s _ h => h 25 rfl⟩
    unfold sl at h11
    simp at h11
    simp [go_sem, h11, hw64]
  · refine OpFactW.value rfl (FM14_below _ _ _ _ _ _ _ _ _ _ _ _) hBB fun L a w2 hl hf D hb => ?_
    have h11 : sl a 13 = .string nm := D 6 (by kernel_rfl)
    have h12 : sl a 19 = .string tn := D 12 (by kernel_rfl)
    have h13 : sl a 22 = .agg #[.int .i64 (fa : Int), .int .i64 (fd : Int)] := D 15 (by kernel_rfl)
    have h14 : sl a 25 = .int .i64 fi := D 18 (by kernel_rfl)
    refine ⟨.agg #[.string nm, .string tn, .int .i64 (fa : Int), .int .i64 (fd : Int), .int .i64 fi, .slice none 0 0], w2, ?_, B0 _, fun s _ h => h 26 rfl⟩
    unfold sl at h11 h12 h13 h14
    simp at h11 h12 h13 h14
    simp [go_sem, h11, h12, h13, h14]
  · refine OpFactW.value rfl (FM14_below _ _ _ _ _ _ _ _ _ _ _ _) hBB fun L a w2 hl hf D hb => ?_
    refine ⟨.pointer (some ⟨w2.heap.size, 0, none⟩), w2.alloc (.cells rnk0 84), ?_, Ba (B0 w2) _, fun s _ h => ⟨_, h 5 rfl, Below.size hb, Blk.new _ _ _⟩⟩
    unfold rnk0
    simp [go_sem]
  intro L9 y9 w9 hb9 hF9
  have y26 := hF9 19 (by decide) rfl
  obtain ⟨rb, y5, hrb, hK9⟩ : rnkA w9 (y9 5) w1.heap.size := hF9 20 (by decide) rfl
  simp only [FM14] at y26
  clear hF9
  have f0 := hK9.frozen 0
  have f1 := hK9.frozen 1
  have f2 := hK9.frozen 2
  have f3 := hK9.frozen 3
  have f4 := hK9.frozen 4
  have f5 := hK9.frozen 5
  have z0 := hK9.cell 0
  have z1 := hK9.cell 1
  have z2 := hK9.cell 2
  have z3 := hK9.cell 3
  have z4 := hK9.cell 4
  have z5 := hK9.cell 5
  unfold rnk0 at z0 z1 z2 z3 z4 z5
  simp only [List.getElem?_toArray, List.getElem?_cons_zero, List.getElem?_cons_succ] at z0 z1 z2 z3 z4 z5
  have HB9 := Lib.hid (show Below w1.heap.size w1 w9 from hb9)
  have HK9 := Lib.hid hK9
  clear hb9 hK9
  rw [aft21 (d0 := 7) (d1 := 8) (d2 := 9) (d3 := 10) (d4 := 11) (d5 := 12) (d6 := 13) (d7 := 14) (d8 := 15) (d9 := 16) (d10 := 17) (d11 := 18) (d12 := 19) (d13 := 20) (d14 := 21) (d15 := 22) (d16 := 23) (d17 := 24) (d18 := 25) (d19 := 26) (d20 := 5) (by kernel_rfl) rfl]
  rw [y26, y5]
  simp only [List.set_cons_succ, List.set_cons_zero]
  refine from_list 22 (by kernel_rfl) (by simp only [List.take_succ_cons, List.take_zero, List.drop_succ_cons, List.drop_zero]; exact rfl) ?_
  (intro Q' hQ' hX; clear hX)
  go_wp2_with fail
  refine from_end rfl ?_
  go_wp2_with fail
  obtain ⟨W9, hW9⟩ : ∃ W9 : World, ((((((w9.setCell ⟨rb, 0, none⟩ (.string nm)).setCell ⟨rb, 1, none⟩ (.string tn)).setCell ⟨rb, 2, none⟩ (.int .i64 (fa : Int))).setCell ⟨rb, 3, none⟩ (.int .i64 (fd : Int))).setCell ⟨rb, 4, none⟩ (.int .i64 fi)).setCell ⟨rb, 5, none⟩ (.slice none 0 0)) = W9 := ⟨_, rfl⟩
  have KB : Blk W9 rb 84 #[.string nm, .string tn, .int .i64 (fa : Int), .int .i64 (fd : Int), .int .i64 fi, .slice none 0 0] := by
    rw [← hW9]
    have h := (((((HK9.out.set_ 0 (.string nm)).set_ 1 (.string tn)).set_ 2 (.int .i64 (fa : Int))).set_ 3 (.int .i64 (fd : Int))).set_ 4 (.int .i64 fi)).set_ 5 (.slice none 0 0)
    unfold rnk0 at h
    simpa using h
  have HB10 : Hid (Below w1.heap.size w1 W9) := Lib.hid (by rw [← hW9]; exact Bs (Bs (Bs (Bs (Bs (Bs HB9.out _ hrb) _ hrb) _ hrb) _ hrb) _ hrb) _ hrb)
  have hb1 : b + 2 = w1.heap.size := HSZ1.out
  rw [hW9]
  have HKB := Lib.hid KB
  clear hW9 f0 f1 f2 f3 f4 f5 z0 z1 z2 z3 z4 z5 KB HK9 HB9 y26 y5
  obtain ⟨q, hq⟩ : ∃ q, p % 25 = q := ⟨_, rfl⟩
  obtain ⟨n, hn⟩ : ∃ n, 1 + q = n := ⟨_, rfl⟩
  have hq1 : (p : Int).tmod 25 = (q : Int) := by rw [Int.tmod_eq_emod_of_nonneg (by omega)]; omega
  have hq2 : (p : Int) % 25 = (q : Int) := by omega
  have hq3 : IntKind.i64.wrap (1 + (q : Int)) = (n : Int) := by rw [IntKind.wrap_i64]; omega
  have hq4 : IntKind.i64.wrap (q : Int) = (q : Int) := by rw [IntKind.wrap_i64]; omega
  have hn25 : n ≤ 25 := by omega
  have HPC := Lib.hid (fun W (hb : Below w1.heap.size w1 W) => (show W.cell? ⟨b, 3, none⟩ = some (.int .u8 (p : Int)) ∧ ∀ r, r < 5 → W.cell? ⟨b, 4 + r, none⟩ = some (.int .u8 (xw r : Int)) from
    ⟨(Bc hb HC1.out.lt).trans (by simpa using HC1.out.cell 3), fun r hr => (Bc hb HC1.out.lt).trans ((HC1.out.cell (4 + r)).trans (by rw [List.getElem?_toArray]; exact hwn r hr))⟩))
  have HWN := Lib.hid hwn
  have HMK := Lib.hid hMK
  have HN := Lib.hid hn
  have HQ := Lib.hid hq
  clear hwn hMK hn hq
  go_loopg [6] n (fun gg s6 wr => ∃ (k : Nat) (v : Value), k ≤ n ∧ n - k ≤ gg ∧ s6 = .int .i64 (k : Int) ∧ Aside (Blk wr rb 84 #[.string nm, .string tn, .int .i64 (fa : Int), .int .i64 (fd : Int), .int .i64 fi, v]) ∧ Aside (OwnL w1.heap.size 3 1 IntC wr v ((List.range k).map fun k => (xw (k % 5) : Int))) ∧ Aside (Below w1.heap.size w1 wr))
  case atStart => exact ⟨0, .slice none 0 0, by omega, by omega, rfl, HKB.out, OwnL.nil, HB10.out⟩
  case round =>
    obtain ⟨k, v, hk, hg, rfl, hKr, hOr, hBr⟩ := hrel
    obtain ⟨z3, zw⟩ := HPC.out wr hBr
    have HKR := Lib.hid hKr
    have HOR := Lib.hid hOr
    have HBR := Lib.hid hBr
    by_cases hlt : k < n
    · have hkI : (k : Int) < n := by omega
      have hkd : decide ((k : Int) < n) = true := decide_eq_true hkI
      obtain ⟨r5, hr5⟩ : ∃ r5, k % 5 = r5 := ⟨_, rfl⟩
      have h51 : (k : Int).tmod 5 = (r5 : Int) := by rw [Int.tmod_eq_emod_of_nonneg (by omega)]; omega
      have h52 : (k : Int) % 5 = (r5 : Int) := by omega
      have h53 : (r5 : Int) < 5 := by omega
      have h54 : r5 < 5 := by omega
      have hrbw := hKr.lt
      have hbw : b < wr.heap.size := by have := hBr.size; omega
      have z5 : wr.cell? ⟨rb, 5, none⟩ = some v := hKr.cell 5
      have f5 := hKr.frozen 5
      have zw5 := zw r5 h54
      have a5 : ∀ o, (wr.alloc o).cell? ⟨rb, 5, none⟩ = some v := fun o => (Bc (Ba (B0 wr) o) hrbw).trans z5
      have aw5 : ∀ o, (wr.alloc o).cell? ⟨b, 4 + r5, none⟩ = some (.int .u8 (xw r5 : Int)) := fun o => (Bc (Ba (B0 wr) o) hbw).trans zw5
      have hwx : IntKind.i64.wrap (xw r5 : Int) = (xw r5 : Int) := by have := hww r5; rw [IntKind.wrap_i64]; omega
      obtain ⟨cs, q1, q2, q3⟩ := hOr
      rw [List.length_map, List.length_range] at q3
      have HQ1 := Lib.hid q1
      have HQ2 := Lib.hid q2
      have HQ3 := Lib.hid q3
      have hfl9 : Flds (wr.alloc (.cells #[.int .i64 (xw r5 : Int)] 3)).drew ⟨wr.heap.size, 0, none⟩ [.int .i64 (xw r5 : Int)] := Flds.new wr _ _
      have HFL9 := Lib.hid hfl9
      have HR5 := Lib.hid hr5
      have hbs : w1.heap.size ≤ wr.heap.size := hBr.size
      clear hfl9 q1 q2 q3 zw hKr hBr hr5
      go_upto_region 5 with fail
      go_region_law (refine step_appS elemIn (by omega) rfl _ _ rfl w1.heap.size v k cs.flatten rfl (HQ3.out.alloc _) ⟨wr.heap.size, 0, none⟩ 1 [.int .i64 (xw r5 : Int)] rfl rfl HFL9.out (by simp [Value.oneCell']) (by omega) (by omega) (by simp; omega) ?_; intro g cap w8 hown8 hg8 hgg; have HO8 := Lib.hid hown8; have HG8 := Lib.hid hg8; have A8 := (HKR.out.alloc (.cells #[.int .i64 (xw r5 : Int)] 3)).drew.grown hg8 (fun e => own_ne HQ3.out HKR.out (by decide) e.symm); have HA8 := Lib.hid A8; have a8 := A8.cell 5; have f8 := A8.frozen 5; simp only [List.getElem?_toArray, List.getElem?_cons_zero, List.getElem?_cons_succ] at a8; clear hown8 hg8 hgg A8)
      all_goals
        go_wp2_with fail
        go_roundg (n - (k + 1))
        case measure => omega
        case rel =>
          refine ⟨k + 1, _, by omega, by omega, by go_num, (show Blk _ _ _ _ from by simpa using HA8.out.set_ 5 (.slice (some ⟨g, 0, none⟩) (k + 1) cap)), (show OwnL _ _ _ _ _ _ _ from ?_), (show Below _ _ _ from ?_)⟩
          · rw [List.range_succ, List.map_append]
            refine OwnL.snoc (c := [.int .i64 (xw r5 : Int)]) HQ1.out HQ2.out rfl (by show [Value.int .i64 (xw r5 : Int)] = [Value.int .i64 ((xw (k % 5) : Nat) : Int)]; rw [HR5.out]) (fun _ _ h => h) ?_
            rw [List.length_map, List.length_range]
            exact HO8.out.kept (row := some rb) ⟨rfl, rfl, rfl, by simp [World.setCell], fun i hi hr => Below.heap_setCell _ _ _ i (fun e => hr (by rw [e]))⟩ (.inr (own_blk_ne HO8.out HA8.out (by decide)))
          · exact Bs ((Ba HBR.out _).drew.grown HG8.out (by have := HBR.out.size; simp; omega) fun j e => (HQ3.out.lt j e).1) _ hrb
    · obtain rfl : k = n := by omega
      have hkd : decide ((k : Int) < k) = false := decide_eq_false (by omega)
      have hS := OwnL.sl (F := fun b => w1.heap.size ≤ b ∧ b < wr.heap.size) hOr (by rw [List.length_map, List.length_range]; omega) (fun b h1 h2 _ => ⟨h1, h2⟩)
      obtain ⟨wl, hwl⟩ : ∃ wl, (List.range k).map (fun k => (xw (k % 5) : Int)) = wl := ⟨_, rfl⟩
      rw [hwl] at hS
      have HS5 := Lib.hid hS
      have HWL := Lib.hid hwl
      obtain ⟨A5, c5, e5, -⟩ := hS
      clear hOr HOR hwl
      subst e5
      have z0 : wr.cell? ⟨rb, 0, none⟩ = some (.string nm) := hKr.cell 0
      have z1 : wr.cell? ⟨rb, 1, none⟩ = some (.string tn) := hKr.cell 1
      have z2 : wr.cell? ⟨rb, 2, none⟩ = some (.int .i64 (fa : Int)) := hKr.cell 2
      have zz3 : wr.cell? ⟨rb, 3, none⟩ = some (.int .i64 (fd : Int)) := hKr.cell 3
      have z4 : wr.cell? ⟨rb, 4, none⟩ = some (.int .i64 fi) := hKr.cell 4
      have z5 : wr.cell? ⟨rb, 5, none⟩ = some (.slice A5 wl.length c5) := hKr.cell 5
      have KRes : Blk wr (b + 1) 84 #[.string ⟨#[]⟩, .string ⟨#[]⟩, .int .i64 0, .int .i64 0, .int .i64 0, .slice none 0 0] := HC2.out.below HBR.out HC2.out.lt
      have y0 := KRes.cell 0
      have y1 := KRes.cell 1
      have y2 := KRes.cell 2
      have y3 := KRes.cell 3
      have y4 := KRes.cell 4
      have y5 := KRes.cell 5
      simp only [List.getElem?_toArray, List.getElem?_cons_zero, List.getElem?_cons_succ] at y0 y1 y2 y3 y4 y5
      have f0 := KRes.frozen 0
      have f1 := KRes.frozen 1
      have f2 := KRes.frozen 2
      have f3 := KRes.frozen 3
      have f4 := KRes.frozen 4
      have f5 := KRes.frozen 5
      clear hKr hBr KRes HKR
      go_wp2_with fail
      obtain ⟨W8, hW8⟩ : ∃ W8 : World, ((((((wr.setCell ⟨b + 1, 0, none⟩ (.string nm)).setCell ⟨b + 1, 1, none⟩ (.string tn)).setCell ⟨b + 1, 2, none⟩ (.int .i64 (fa : Int))).setCell ⟨b + 1, 3, none⟩ (.int .i64 (fd : Int))).setCell ⟨b + 1, 4, none⟩ (.int .i64 fi)).setCell ⟨b + 1, 5, none⟩ (.slice A5 wl.length c5)) = W8 := ⟨_, rfl⟩
      rw [hW8]
      have KZ : Blk W8 (b + 1) 84 #[.string nm, .string tn, .int .i64 (fa : Int), .int .i64 (fd : Int), .int .i64 fi, .slice A5 wl.length c5] := by
        rw [← hW8]
        have h := ((((((HC2.out.below HBR.out HC2.out.lt).set_ 0 (.string nm)).set_ 1 (.string tn)).set_ 2 (.int .i64 (fa : Int))).set_ 3 (.int .i64 (fd : Int))).set_ 4 (.int .i64 fi)).set_ 5 (.slice A5 wl.length c5)
        simpa using h
      have HBZ : Below w.heap.size wr W8 := by
        have h1 : w.heap.size ≤ b + 1 := by rw [HBB.out]; omega
        have h2 := (HB1.out.size)
        have h0 : Below w.heap.size wr wr := Below.refl _ wr
        rw [← hW8]
        exact (((((h0.setCell h1 _).setCell h1 _).setCell h1 _).setCell h1 _).setCell h1 _).setCell h1 _
      have HSW : W8.heap.size = wr.heap.size := by rw [← hW8]; simp [World.setCell]
      have HSS : SlI (fun c => w.heap.size ≤ c ∧ c < W8.heap.size) W8 (.slice A5 wl.length c5) wl := by
        have h := SlI.keep HS5.out (w' := W8) ?_
        · exact Sl.mono h fun c hc => ⟨by have := HB1.out.size; omega, by rw [HSW]; exact hc.2⟩
        · rw [← hW8]
          have h1 : ∀ c, w1.heap.size ≤ c ∧ c < wr.heap.size → c ≠ b + 1 := fun c hc e => by omega
          exact (((((Agree.setCell _ h1).trans (Agree.setCell _ h1)).trans (Agree.setCell _ h1)).trans (Agree.setCell _ h1)).trans (Agree.setCell _ h1)).trans (Agree.setCell _ h1)
      have x0 := KZ.cell 0
      have x1 := KZ.cell 1
      have x2 := KZ.cell 2
      have x3 := KZ.cell 3
      have x4 := KZ.cell 4
      have x5 := KZ.cell 5
      simp only [List.getElem?_toArray, List.getElem?_cons_zero, List.getElem?_cons_succ] at x0 x1 x2 x3 x4 x5
      refine bodyPost_ret (v := .agg #[.string nm, .string tn, .int .i64 (fa : Int), .int .i64 (fd : Int), .int .i64 fi, .slice A5 wl.length c5]) (by simp [results, Tryz.f41, go_sem, x0, x1, x2, x3, x4, x5]) rfl ?_
      refine ⟨_, rfl, rfl, ?_, ?_⟩
      · rw [HMK.out]
        refine ⟨.slice A5 wl.length c5, ?_, ?_⟩
        · show [_, _, _, _, _, _] = [_, _, _, _, _, _]
          rw [HNM.out.1, HNM.out.2.1, HNM.out.2.2.1, HNM.out.2.2.2]
        · have hk : (List.range (1 + p % 25)).map (fun k => (xw (k % 5) : Int)) = wl := by rw [HQ.out, HN.out]; exact HWL.out
          dsimp only
          rw [hk]
          exact HSS
      · exact (HB1.out.trans (Below.mono HBR.out HB1.out.size)).trans HBZ
end Go.Proofs.YtnfpjcjlapljjaaGreatDoor
