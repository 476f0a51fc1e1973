/- Walk over law 26: Make (its drawn regions printed by mk26.py). -/
import Derived.Test.YtnfpjcjlapljjaaGreatDoorDg
import Derived.Test.YtnfpjcjlapljjaaGreatDoorDj
namespace Go.Proofs.YtnfpjcjlapljjaaGreatDoor
open Go Go.RowKit Go.Shelf
open Org
namespace Org
/-- A sound. -/
structure Snd where
  o : Og
  r : Rg
  keys : List Nat
  rank : Int
  num : Int
/-- The bits of a registration, of keys, of a pipe. -/
structure Bt26 where
  c : Nat → Nat
  k : Nat → Nat
  r : Nat
  n : Nat
structure Bt26.Ok (x : Bt26) : Prop where
  c : ∀ i, i < 5 → x.c i < 256
  k : ∀ i, i < 3 → x.k i < 65536
  r : x.r < 256
  n : x.n < 256
def Bt26.cs (x : Bt26) : List Value := [.int .u8 (x.c 0 : Int), .int .u8 (x.c 1 : Int), .int .u8 (x.c 2 : Int), .int .u8 (x.c 3 : Int), .int .u8 (x.c 4 : Int), .int .u16 (x.k 0 : Int), .int .u16 (x.k 1 : Int), .int .u16 (x.k 2 : Int), .int .u8 (x.r : Int), .int .u8 (x.n : Int)]
def windN (rs : List Rnk) (k : Nat) : Nat := match rs[k]? with
  | some r => r.wind.length
  | none => 0
/-- The sound of a plan with some bits. -/
def mkSnd (x : Pn) (b : Bt26) : Snd := ⟨mkOg x, drawnF (mkOg x) b.c, pressF (mkOg x) b.k, ((b.r % x.ranks.length : Nat) : Int), ((b.n % windN (mkRs x) (b.r % x.ranks.length) : Nat) : Int)⟩
theorem mkOg_small (x : Pn) (h : x.Fits) : (mkOg x).Small := by
  obtain ⟨h1, h2, h3, h4, h5, h6⟩ := h
  refine ⟨by show 1 ≤ (List.mapIdx _ _).length; rw [List.length_mapIdx]; omega, by show (List.mapIdx _ _).length ≤ _; rw [List.length_mapIdx]; omega, by show (List.mapIdx _ _).length ≤ _; rw [List.length_mapIdx]; omega, fun d hd => ?_⟩
  obtain ⟨i, hi, rfl⟩ := List.mem_mapIdx.1 (show d ∈ x.divs.mapIdx fun i b => mkDv (mkRs x) b i from hd)
  have := h6 _ (List.getElem_mem hi)
  show (List.mapIdx _ _).length ≤ _
  rw [List.length_mapIdx]
  omega
theorem mkOg_keyed (x : Pn) (h : x.Fits) : (mkOg x).Keyed := by
  obtain ⟨h1, h2, h3, h4, h5, h6⟩ := h
  refine ⟨by show 1 ≤ (List.mapIdx _ _).length; rw [List.length_mapIdx]; omega, by show (List.mapIdx _ _).length ≤ _; rw [List.length_mapIdx]; omega, fun d hd => ?_⟩
  obtain ⟨i, hi, rfl⟩ := List.mem_mapIdx.1 (show d ∈ x.divs.mapIdx fun i b => mkDv (mkRs x) b i from hd)
  unfold mkDv
  dsimp only
  omega
theorem windN_pos (x : Pn) (k : Nat) (h : k < x.ranks.length) : 1 ≤ windN (mkRs x) k ∧ windN (mkRs x) k ≤ 25 := by
  unfold windN mkRs
  rw [List.getElem?_mapIdx, List.getElem?_eq_getElem h]
  show 1 ≤ (List.map _ _).length ∧ (List.map _ _).length ≤ 25
  rw [List.length_map, List.length_range]
  omega
end Org
def SndC (F : Nat → Prop) (w : World) (cs : List Value) (x : Snd) : Prop := ∃ vr vd vc vs vk, cs = [.string x.o.name, vr, vd, vc, vs, .int .u64 (x.r.cpl : Int), .int .u64 (x.r.off : Int), vk, .int .i64 x.rank, .int .i64 x.num] ∧ Sl F 6 (RnkC F) w vr x.o.ranks ∧ Sl F 5 (DvsC F) w vd x.o.divs ∧ Sl F 5 (CpC F) w vc x.o.cpls ∧ Sl F 1 (U64R F) w vs x.r.stops ∧ Sl F 2 (NtR F) w vk x.keys
theorem relSnd : RelF SndC := ⟨fun ⟨a, b, c, d, f, e, q1, q2, q3, q4, q5⟩ ha => ⟨a, b, c, d, f, e, Sl.keepF relRnk q1 ha, Sl.keepF relDvs q2 ha, Sl.keepF relCpl q3 ha, Sl.keepF relU64 q4 ha, Sl.keepF relNt q5 ha⟩, fun ⟨a, b, c, d, f, e, q1, q2, q3, q4, q5⟩ hF => ⟨a, b, c, d, f, e, Sl.monoF relRnk q1 hF, Sl.monoF relDvs q2 hF, Sl.monoF relCpl q3 hF, Sl.monoF relU64 q4 hF, Sl.monoF relNt q5 hF⟩⟩
def RgA (lim : Nat) (w : World) (v : Value) (rg : Rg) : Prop := ∃ cs : List Value, v = .agg cs.toArray ∧ RgC (NewT lim 42 w) w cs rg
theorem RgA.below {lim : Nat} {w w' : World} {v : Value} {rg : Rg} (h : RgA lim w v rg) (hb : Below w.heap.size w w') : RgA lim w' v rg := by
  obtain ⟨cs, e, h⟩ := h
  exact ⟨cs, e, relRg.mono (relRg.keep h (Agree.below hb fun _ h => h.1.2)) fun _ h => h.below hb⟩
def SlA (lim : Nat) (w : World) (v : Value) (ks : List Nat) : Prop := Sl (NewT lim 97 w) 2 (NtR (NewT lim 97 w)) w v ks
theorem SlA.below {lim : Nat} {w w' : World} {v : Value} {ks : List Nat} (h : SlA lim w v ks) (hb : Below w.heap.size w w') : SlA lim w' v ks :=
  Sl.monoF relNt (Sl.keepF relNt h (Agree.below hb fun _ h => h.1.2)) fun _ h => h.below hb
def SndA (on : ByteArray) (vr vd vc : Value) (lim : Nat) (w : World) (v : Value) (rg : Rg) (ks : List Nat) : Prop := ∃ vs vk, v = .agg #[.string on, vr, vd, vc, vs, .int .u64 (rg.cpl : Int), .int .u64 (rg.off : Int), vk, .int .i64 0, .int .i64 0] ∧ Sl (NewT lim 42 w) 1 (U64R (NewT lim 42 w)) w vs rg.stops ∧ SlA lim w vk ks
theorem SndA.below {on : ByteArray} {vr vd vc : Value} {lim : Nat} {w w' : World} {v : Value} {rg : Rg} {ks : List Nat} (h : SndA on vr vd vc lim w v rg ks) (hb : Below w.heap.size w w') : SndA on vr vd vc lim w' v rg ks := by
  obtain ⟨vs, vk, e, h1, h2⟩ := h
  exact ⟨vs, vk, e, Sl.monoF relU64 (Sl.keepF relU64 h1 (Agree.below hb fun _ h => h.1.2)) fun _ h => h.below hb, h2.below hb⟩
def snd0 : Array Value := #[.string ⟨#[]⟩, .slice none 0 0, .slice none 0 0, .slice none 0 0, .slice none 0 0, .int .u64 0, .int .u64 0, .slice none 0 0, .int .i64 0, .int .i64 0]
def sndP (w : World) (v : Value) (lim : Nat) : Prop := ∃ g, v = .pointer (some ⟨g, 0, none⟩) ∧ lim ≤ g ∧ Blk w g 53 snd0
theorem sndP_below {w w' : World} {v : Value} {lim : Nat} (h : sndP w v lim) (hb : Below w.heap.size w w') : sndP w' v lim := by
  obtain ⟨g, e, hl, hk⟩ := h
  exact ⟨g, e, hl, hk.below hb hk.lt⟩
/-- What holds behind each operation of a drawn region. -/
def FS2 (b1 ob : Nat) (on : ByteArray) (Ar Ad Ac : Option Addr) (nr cr nd cd nc cc e0 e1 e2 e3 e4 k0 k1 k2 : Nat) (lim : Nat) (rg : Rg) (ks : List Nat) (j : Nat) (s : Nat → Value) (w : World) : Prop :=
  match j with
  | 0 => s 9 = .agg #[.string on, .slice Ar nr cr, .slice Ad nd cd, .slice Ac nc cc]
  | 1 => s 10 = .agg #[.string on, .slice Ar nr cr, .slice Ad nd cd, .slice Ac nc cc]
  | 2 => s 11 = .pointer (some ⟨b1, 0, none⟩)
  | 3 => s 12 = .agg #[.int .u8 (e0 : Int), .int .u8 (e1 : Int), .int .u8 (e2 : Int), .int .u8 (e3 : Int), .int .u8 (e4 : Int)]
  | 4 => RgA lim w (s 13) rg
  | 5 => s 14 = .agg #[.string on, .slice Ar nr cr, .slice Ad nd cd, .slice Ac nc cc]
  | 6 => s 15 = .pointer (some ⟨b1, 5, none⟩)
  | 7 => s 16 = .agg #[.int .u16 (k0 : Int), .int .u16 (k1 : Int), .int .u16 (k2 : Int)]
  | 8 => SlA lim w (s 17) ks
  | 9 => SndA on (.slice Ar nr cr) (.slice Ad nd cd) (.slice Ac nc cc) lim w (s 18) rg ks
  | 10 => sndP w (s 6) lim
  | _ => True
def VS2 (j : Nat) : List Nat := match j with
  | 0 => [9] | 1 => [10] | 2 => [11] | 3 => [12] | 4 => [13] | 5 => [14] | 6 => [15] | 7 => [16] | 8 => [17] | 9 => [18] | 10 => [6] | _ => []
def ES2 (j : Nat) : Bool := j == 9 || j == 10
theorem FS2_V (b1 ob : Nat) (on : ByteArray) (Ar Ad Ac : Option Addr) (nr cr nd cd nc cc e0 e1 e2 e3 e4 k0 k1 k2 : Nat) (lim : Nat) (rg : Rg) (ks : List Nat) (j : Nat) (s s' : Nat → Value) (w : World) (h : ∀ t, t ∈ VS2 j → s' t = s t) (hF : FS2 b1 ob on Ar Ad Ac nr cr nd cd nc cc e0 e1 e2 e3 e4 k0 k1 k2 lim rg ks j s w) : FS2 b1 ob on Ar Ad Ac nr cr nd cd nc cc e0 e1 e2 e3 e4 k0 k1 k2 lim rg ks j s' w := by
  match j with
  | 0 => unfold FS2 at hF ⊢; simp only at hF ⊢; rw [h 9 (by simp [VS2])]; exact hF
  | 1 => unfold FS2 at hF ⊢; simp only at hF ⊢; rw [h 10 (by simp [VS2])]; exact hF
  | 2 => unfold FS2 at hF ⊢; simp only at hF ⊢; rw [h 11 (by simp [VS2])]; exact hF
  | 3 => unfold FS2 at hF ⊢; simp only at hF ⊢; rw [h 12 (by simp [VS2])]; exact hF
  | 4 => unfold FS2 at hF ⊢; simp only at hF ⊢; rw [h 13 (by simp [VS2])]; exact hF
  | 5 => unfold FS2 at hF ⊢; simp only at hF ⊢; rw [h 14 (by simp [VS2])]; exact hF
  | 6 => unfold FS2 at hF ⊢; simp only at hF ⊢; rw [h 15 (by simp [VS2])]; exact hF
  | 7 => unfold FS2 at hF ⊢; simp only at hF ⊢; rw [h 16 (by simp [VS2])]; exact hF
  | 8 => unfold FS2 at hF ⊢; simp only at hF ⊢; rw [h 17 (by simp [VS2])]; exact hF
  | 9 => unfold FS2 at hF ⊢; simp only at hF ⊢; rw [h 18 (by simp [VS2])]; exact hF
  | 10 => unfold FS2 at hF ⊢; simp only at hF ⊢; rw [h 6 (by simp [VS2])]; exact hF
  | _ + 11 => trivial
theorem FS2_below (b1 ob : Nat) (on : ByteArray) (Ar Ad Ac : Option Addr) (nr cr nd cd nc cc e0 e1 e2 e3 e4 k0 k1 k2 : Nat) (lim : Nat) (rg : Rg) (ks : List Nat) (j : Nat) (s : Nat → Value) (w w' : World) (hb : Below w.heap.size w w') (hF : FS2 b1 ob on Ar Ad Ac nr cr nd cd nc cc e0 e1 e2 e3 e4 k0 k1 k2 lim rg ks j s w) : FS2 b1 ob on Ar Ad Ac nr cr nd cd nc cc e0 e1 e2 e3 e4 k0 k1 k2 lim rg ks j s w' := by
  match j with
  | 0 => exact hF
  | 1 => exact hF
  | 2 => exact hF
  | 3 => exact hF
  | 4 => exact RgA.below hF hb
  | 5 => exact hF
  | 6 => exact hF
  | 7 => exact hF
  | 8 => exact SlA.below hF hb
  | 9 => exact SndA.below hF hb
  | 10 => exact sndP_below hF hb
  | _ + 11 => trivial
/-- What holds behind each operation of a drawn region. -/
def FS4 (b1 ob sb nr cr bn rk nw cw q : Nat) (Aw : Option Addr) (ad p : Addr) (j : Nat) (s : Nat → Value) (_w : World) : Prop :=
  match j with
  | 0 => s 28 = .pointer (some ⟨b1, 9, none⟩)
  | 1 => s 29 = .int .u8 (bn : Int)
  | 2 => s 30 = .int .i64 (bn : Int)
  | 3 => s 31 = .pointer (some ⟨ob, 1, none⟩)
  | 4 => s 32 = .slice (some ad) nr cr
  | 5 => s 33 = .pointer (some ⟨sb, 8, none⟩)
  | 6 => s 34 = .pointer (some ⟨sb, 8, none⟩)
  | 7 => s 35 = .int .i64 (rk : Int)
  | 8 => s 36 = .pointer (some p)
  | 9 => s 37 = .pointer (some ⟨p.block, p.off + 5, none⟩)
  | 10 => s 38 = .slice Aw nw cw
  | 11 => s 39 = .int .i64 (nw : Int)
  | 12 => s 40 = .int .i64 (q : Int)
  | _ => True
def VS4 (j : Nat) : List Nat := match j with
  | 0 => [28] | 1 => [29] | 2 => [30] | 3 => [31] | 4 => [32] | 5 => [33] | 6 => [34] | 7 => [35] | 8 => [36] | 9 => [37] | 10 => [38] | 11 => [39] | 12 => [40] | _ => []
def ES4 (j : Nat) : Bool := j == 12
theorem FS4_V (b1 ob sb nr cr bn rk nw cw q : Nat) (Aw : Option Addr) (ad p : Addr) (j : Nat) (s s' : Nat → Value) (w : World) (h : ∀ t, t ∈ VS4 j → s' t = s t) (hF : FS4 b1 ob sb nr cr bn rk nw cw q Aw ad p j s w) : FS4 b1 ob sb nr cr bn rk nw cw q Aw ad p j s' w := by
  match j with
  | 0 => unfold FS4 at hF ⊢; simp only at hF ⊢; rw [h 28 (by simp [VS4])]; exact hF
  | 1 => unfold FS4 at hF ⊢; simp only at hF ⊢; rw [h 29 (by simp [VS4])]; exact hF
  | 2 => unfold FS4 at hF ⊢; simp only at hF ⊢; rw [h 30 (by simp [VS4])]; exact hF
  | 3 => unfold FS4 at hF ⊢; simp only at hF ⊢; rw [h 31 (by simp [VS4])]; exact hF
  | 4 => unfold FS4 at hF ⊢; simp only at hF ⊢; rw [h 32 (by simp [VS4])]; exact hF
  | 5 => unfold FS4 at hF ⊢; simp only at hF ⊢; rw [h 33 (by simp [VS4])]; exact hF
  | 6 => unfold FS4 at hF ⊢; simp only at hF ⊢; rw [h 34 (by simp [VS4])]; exact hF
  | 7 => unfold FS4 at hF ⊢; simp only at hF ⊢; rw [h 35 (by simp [VS4])]; exact hF
  | 8 => unfold FS4 at hF ⊢; simp only at hF ⊢; rw [h 36 (by simp [VS4])]; exact hF
  | 9 => unfold FS4 at hF ⊢; simp only at hF ⊢; rw [h 37 (by simp [VS4])]; exact hF
  | 10 => unfold FS4 at hF ⊢; simp only at hF ⊢; rw [h 38 (by simp [VS4])]; exact hF
  | 11 => unfold FS4 at hF ⊢; simp only at hF ⊢; rw [h 39 (by simp [VS4])]; exact hF
  | 12 => unfold FS4 at hF ⊢; simp only at hF ⊢; rw [h 40 (by simp [VS4])]; exact hF
  | _ + 13 => trivial
theorem FS4_below (b1 ob sb nr cr bn rk nw cw q : Nat) (Aw : Option Addr) (ad p : Addr) (j : Nat) (s : Nat → Value) (w w' : World) (_hb : Below w.heap.size w w') (hF : FS4 b1 ob sb nr cr bn rk nw cw q Aw ad p j s w) : FS4 b1 ob sb nr cr bn rk nw cw q Aw ad p j s w' := by
  match j with
  | 0 => exact hF
  | 1 => exact hF
  | 2 => exact hF
  | 3 => exact hF
  | 4 => exact hF
  | 5 => exact hF
  | 6 => exact hF
  | 7 => exact hF
  | 8 => exact hF
  | 9 => exact hF
  | 10 => exact hF
  | 11 => exact hF
  | 12 => exact hF
  | _ + 13 => trivial
set_option maxRecDepth 100000 in
set_option maxHeartbeats 4000000 in
theorem make26_any (x : Pn) (y : Bt26) (hx : x.Ok) (hf : x.Fits) (hy : y.Ok) (vr vd vc : Value) (w : World) (hT : TabP w) (F : Nat → Prop) (hF : ∀ c, F c → c < w.heap.size) (hR : Sl F 9 P14C w vr x.ranks) (hD : Sl F 4 (BdC F) w vd x.divs) (hC : Sl F 4 LnkC w vc x.cpls) :
    Calls Tryz.prog 8 #[.agg #[vr, vd, vc], .agg y.cs.toArray] w fun e w' => ∃ cs, e = .returned (.agg cs.toArray) ∧ cs.length = 10 ∧ SndC (fun b => w.heap.size ≤ b ∧ b < w'.heap.size) w' cs (mkSnd x y) ∧ Below w.heap.size w w' := by
  have hsm := mkOg_small x hf
  have hke := mkOg_keyed x hf
  obtain ⟨hyc, hyk, hyr, hyn⟩ := hy
  have hr1 := hf.r1
  have hr3 := hf.r3
  obtain ⟨Ax, cx, rfl, -⟩ := Sl.openF hR
  obtain ⟨Ay, cy, rfl, -⟩ := Sl.openF hD
  obtain ⟨Az, cz, rfl, -⟩ := Sl.openF hC
  obtain ⟨yc, yk, br, bn⟩ := y
  unfold Bt26.cs
  dsimp only at hyc hyk hyr hyn ⊢
  have HMK := Lib.hid (fun W (hb : Below w.heap.size w W) => make18_any x hx hf _ _ _ W (hT.below hb) F (fun c hc => Nat.lt_of_lt_of_le (hF c hc) hb.size) (Sl.keep hR (Agree.below hb hF) fun _ _ h => h) (Sl.keepF relBd hD (Agree.below hb hF)) (Sl.keep hC (Agree.below hb hF) fun _ _ h => h))
  have hDR := fun vr vd vc W F hF hD hR hC => drawn18_any (mkOg x) yc hsm hyc vr vd vc W F hF hD hR hC
  have hPR := fun vr vd vc W F hF hD => pressed18_any (mkOg x) yk hke hyk vr vd vc W F hF hD
  have hrl : (mkOg x).ranks.length = x.ranks.length := mkRs_len x
  have hwn := fun k (hk : k < x.ranks.length) => windN_pos x k hk
  have hFIN : mkSnd x ⟨yc, yk, br, bn⟩ = ⟨mkOg x, drawnF (mkOg x) yc, pressF (mkOg x) yk, ((br % x.ranks.length : Nat) : Int), ((bn % windN (mkOg x).ranks (br % x.ranks.length) : Nat) : Int)⟩ := rfl
  obtain ⟨FIN, hFI⟩ : ∃ f, mkSnd x ⟨yc, yk, br, bn⟩ = f := ⟨_, rfl⟩
  rw [hFI] at hFIN ⊢
  clear hFI
  rw [show mkRs x = (mkOg x).ranks from rfl] at hwn
  obtain ⟨rg, hrg⟩ : ∃ r, drawnF (mkOg x) yc = r := ⟨_, rfl⟩
  obtain ⟨ks, hks⟩ : ∃ r, pressF (mkOg x) yk = r := ⟨_, rfl⟩
  rw [hrg, hks] at hFIN
  rw [hrg] at hDR
  rw [hks] at hPR
  obtain ⟨og, hog⟩ : ∃ o, mkOg x = o := ⟨_, rfl⟩
  rw [hog] at hDR hPR hrl hwn hFIN HMK
  clear hog hrg hks
  obtain ⟨on, ors, ods, ocs⟩ := og
  dsimp only at hDR hPR hrl hwn hFIN
  obtain ⟨nr, hnr⟩ : ∃ n, x.ranks.length = n := ⟨_, rfl⟩
  rw [hnr] at hrl hwn hFIN hr1 hr3
  obtain ⟨rk, hrk⟩ : ∃ r, br % nr = r := ⟨_, rfl⟩
  have hrkn : rk < nr := by rw [← hrk]; exact Nat.mod_lt _ (by omega)
  obtain ⟨hw1', hw25⟩ := hwn rk hrkn
  rw [hrk] at hFIN
  obtain ⟨nw, hnw⟩ : ∃ n, windN ors rk = n := ⟨_, rfl⟩
  rw [hnw] at hFIN hw1' hw25
  obtain ⟨q, hq⟩ : ∃ q, bn % nw = q := ⟨_, rfl⟩
  rw [hq] at hFIN
  obtain ⟨e0, he0⟩ : ∃ e, yc 0 = e := ⟨_, rfl⟩
  obtain ⟨e1, he1⟩ : ∃ e, yc 1 = e := ⟨_, rfl⟩
  obtain ⟨e2, he2⟩ : ∃ e, yc 2 = e := ⟨_, rfl⟩
  obtain ⟨e3, he3⟩ : ∃ e, yc 3 = e := ⟨_, rfl⟩
  obtain ⟨e4, he4⟩ : ∃ e, yc 4 = e := ⟨_, rfl⟩
  obtain ⟨k0, hk0⟩ : ∃ e, yk 0 = e := ⟨_, rfl⟩
  obtain ⟨k1, hk1⟩ : ∃ e, yk 1 = e := ⟨_, rfl⟩
  obtain ⟨k2, hk2⟩ : ∃ e, yk 2 = e := ⟨_, rfl⟩
  rw [he0, he1, he2, he3, he4] at hDR ⊢
  rw [hk0, hk1, hk2] at hPR ⊢
  have HFIN := Lib.hid hFIN
  have HDR := Lib.hid hDR
  have HPR := Lib.hid hPR
  have HRL := Lib.hid hrl
  have HNW := Lib.hid hnw
  have hbw : IntKind.i64.wrap (bn : Int) = (bn : Int) := by rw [IntKind.wrap_i64]; omega
  have hbr : IntKind.i64.wrap (br : Int) = (br : Int) := by rw [IntKind.wrap_i64]; omega
  have hrk1 : (br : Int).tmod (nr : Int) = (rk : Int) := by rw [Int.tmod_eq_emod_of_nonneg (by omega), ← hrk]; simp
  have hrk2 : (br : Int) % (nr : Int) = (rk : Int) := by rw [← hrk]; simp
  have hrk0 : ¬ nr = 0 := by omega
  have hq1 : (bn : Int).tmod (nw : Int) = (q : Int) := by rw [Int.tmod_eq_emod_of_nonneg (by omega), ← hq]; simp
  have hq0 : ¬ nw = 0 := by omega
  have HQE := Lib.hid hq1
  have HRKE : Hid ((br : Int).tmod (nr : Int) = (br : Int) % (nr : Int)) := Lib.hid (Int.tmod_eq_emod_of_nonneg (by omega))
  have HRKF := Lib.hid hrk2
  have hkI : (rk : Int) < (nr : Int) := by omega
  clear hFIN hDR hPR hrl hwn hsm hke hyc hyk he0 he1 he2 he3 he4 hk0 hk1 hk2 hrk hq hnw hT hR hD hC hx hf
  obtain ⟨w1, hw1⟩ : ∃ w1 : World, ((w.alloc (.cells #[.slice Ax x.ranks.length cx, .slice Ay x.divs.length cy, .slice Az x.cpls.length cz] 26)).alloc (.cells #[.int .u8 (e0 : Int), .int .u8 (e1 : Int), .int .u8 (e2 : Int), .int .u8 (e3 : Int), .int .u8 (e4 : Int), .int .u16 (k0 : Int), .int .u16 (k1 : Int), .int .u16 (k2 : Int), .int .u8 (br : Int), .int .u8 (bn : Int)] 31)).alloc (.cells snd0 53) = w1 := ⟨_, rfl⟩
  obtain ⟨b, hb⟩ : ∃ b, w.heap.size = b := ⟨_, rfl⟩
  obtain ⟨b1, hb1⟩ : ∃ b1, b + 1 = b1 := ⟨_, rfl⟩
  obtain ⟨b2, hb2⟩ : ∃ b2, b1 + 1 = b2 := ⟨_, rfl⟩
  have C1 : Blk w1 b 26 #[.slice Ax x.ranks.length cx, .slice Ay x.divs.length cy, .slice Az x.cpls.length cz] := by rw [← hw1, ← hb]; exact ((Blk.new _ _ _).alloc _).alloc _
  have C2 : Blk w1 b1 31 #[.int .u8 (e0 : Int), .int .u8 (e1 : Int), .int .u8 (e2 : Int), .int .u8 (e3 : Int), .int .u8 (e4 : Int), .int .u16 (k0 : Int), .int .u16 (k1 : Int), .int .u16 (k2 : Int), .int .u8 (br : Int), .int .u8 (bn : Int)] := by
    rw [← hw1, ← hb1, ← hb]
    have h := (Blk.new (w.alloc (.cells #[.slice Ax x.ranks.length cx, .slice Ay x.divs.length cy, .slice Az x.cpls.length cz] 26)) 31 #[.int .u8 (e0 : Int), .int .u8 (e1 : Int), .int .u8 (e2 : Int), .int .u8 (e3 : Int), .int .u8 (e4 : Int), .int .u16 (k0 : Int), .int .u16 (k1 : Int), .int .u16 (k2 : Int), .int .u8 (br : Int), .int .u8 (bn : Int)]).alloc (.cells snd0 53)
    simpa using h
  have C3 : Blk w1 b2 53 snd0 := by
    rw [← hw1, ← hb2, ← hb1, ← hb]
    have h := Blk.new ((w.alloc (.cells #[.slice Ax x.ranks.length cx, .slice Ay x.divs.length cy, .slice Az x.cpls.length cz] 26)).alloc (.cells #[.int .u8 (e0 : Int), .int .u8 (e1 : Int), .int .u8 (e2 : Int), .int .u8 (e3 : Int), .int .u8 (e4 : Int), .int .u16 (k0 : Int), .int .u16 (k1 : Int), .int .u16 (k2 : Int), .int .u8 (br : Int), .int .u8 (bn : Int)] 31)) 53 snd0
    simpa using h
  have HB1 : Hid (Below w.heap.size w w1) := Lib.hid (by rw [← hw1]; exact Ba (Ba (Ba (B0 w) _) _) _)
  have HL1 : Hid (b < w1.heap.size ∧ b1 < w1.heap.size ∧ b2 < w1.heap.size ∧ w.heap.size ≤ b2) := Lib.hid ⟨C1.lt, C2.lt, C3.lt, by omega⟩
  have p0 := C1.cell 0
  have p1 := C1.cell 1
  have p2 := C1.cell 2
  simp only [List.getElem?_toArray, List.getElem?_cons_zero, List.getElem?_cons_succ] at p0 p1 p2
  have HC2 := Lib.hid C2
  have HC3 := Lib.hid C3
  have HW1 := Lib.hid hw1
  have HBB := Lib.hid hb
  have HQ1 := Lib.hid hb1
  have HQ2 := Lib.hid hb2
  have HNR := Lib.hid hnr
  clear hw1 hb hb1 hb2 C1 C2 C3 hnr
  go_enter Tryz.func8, Tryz.ntmps8
  unfold snd0 at HW1
  go_upto_region 1 with fail
  rw [HW1.out, HBB.out, HQ1.out, HQ2.out]
  go_upto_region 2 with (go_at_call 16; (with_reducible refine ((HMK.out _ HB1.out).mono ?_)); rintro e w2 ⟨cs, rfl, hl, ⟨vr, vd, vc, rfl, hR, hD, hC⟩, hb2⟩; have HB2 := Lib.hid hb2; have HR2 := Lib.hid hR; have HD2 := Lib.hid hD; have HC2' := Lib.hid hC; (obtain ⟨Ar, cr, rfl, -⟩ := Sl.openF hR); (obtain ⟨Ad, cd, rfl, -⟩ := Sl.openF hD); (obtain ⟨Ac, cc, rfl, -⟩ := Sl.openF hC); clear hl hR hD hC hb2)
  obtain ⟨nd, hnd⟩ : ∃ n, ods.length = n := ⟨_, rfl⟩
  obtain ⟨nc, hnc⟩ : ∃ n, ocs.length = n := ⟨_, rfl⟩
  have hR2 := HR2.out
  have hD2 := HD2.out
  have hC2 := HC2'.out
  rw [HRL.out] at hR2
  rw [hnd] at hD2
  rw [hnc] at hC2
  rw [HRL.out, hnd, hnc]
  clear HR2 HD2 HC2'
  obtain ⟨w3, hw3⟩ : ∃ w3 : World, w2.alloc (.cells #[.string on, .slice Ar nr cr, .slice Ad nd cd, .slice Ac nc cc] 40) = w3 := ⟨_, rfl⟩
  obtain ⟨ob, hob⟩ : ∃ ob, w2.heap.size = ob := ⟨_, rfl⟩
  have KO : Blk w3 ob 40 #[.string on, .slice Ar nr cr, .slice Ad nd cd, .slice Ac nc cc] := by rw [← hw3, ← hob]; exact Blk.new _ _ _
  have HB3 : Hid (Below w1.heap.size w1 w3) := Lib.hid (Bt HB2.out (by rw [← hw3]; exact Ba (B0 w2) _))
  have HF2 : Hid (∀ c, w1.heap.size ≤ c ∧ c < w2.heap.size → c < w3.heap.size) := Lib.hid fun c hc => by rw [← hw3]; simp; omega
  have hB23 : Below w2.heap.size w2 w3 := by rw [← hw3]; exact Ba (B0 w2) _
  rw [hw3, hob]
  have HZ23 : Hid (w2.heap.size ≤ w3.heap.size) := Lib.hid hB23.size
  have HR3 := Lib.hid (fun W (hb : Below w3.heap.size w3 W) => Sl.keepF relRnk hR2 (Agree.below (Bt hB23 hb) fun _ h => h.2))
  have HD3 := Lib.hid (fun W (hb : Below w3.heap.size w3 W) => Sl.keepF relDvs hD2 (Agree.below (Bt hB23 hb) fun _ h => h.2))
  have HC3' := Lib.hid (fun W (hb : Below w3.heap.size w3 W) => Sl.keepF relCpl hC2 (Agree.below (Bt hB23 hb) fun _ h => h.2))
  have HDRW := Lib.hid (fun W (hb : Below w3.heap.size w3 W) => HDR.out (.slice Ar nr cr) (.slice Ad nd cd) (.slice Ac nc cc) W (fun c => w1.heap.size ≤ c ∧ c < w2.heap.size) (fun c hc => Nat.lt_of_lt_of_le (HF2.out c hc) hb.size) (HD3.out W hb) ⟨_, _, _, rfl⟩ ⟨Ac, cc, by rw [hnc]⟩)
  have HPRW := Lib.hid (fun W (hb : Below w3.heap.size w3 W) => HPR.out (.slice Ar nr cr) (.slice Ad nd cd) (.slice Ac nc cc) W (fun c => w1.heap.size ≤ c ∧ c < w2.heap.size) (fun c hc => Nat.lt_of_lt_of_le (HF2.out c hc) hb.size) (HD3.out W hb))
  have lb1 := Nat.lt_of_lt_of_le HL1.out.2.1 HB3.out.size
  have HS1 := Lib.hid (fun W (hb : Below w3.heap.size w3 W) => (show ((W.cell? ⟨b1, 0, none⟩ = some (.int .u8 (e0 : Int)) ∧ W.cell? ⟨b1, 1, none⟩ = some (.int .u8 (e1 : Int)) ∧ W.cell? ⟨b1, 2, none⟩ = some (.int .u8 (e2 : Int)) ∧ W.cell? ⟨b1, 3, none⟩ = some (.int .u8 (e3 : Int)) ∧ W.cell? ⟨b1, 4, none⟩ = some (.int .u8 (e4 : Int))) ∧ (W.cell? ⟨b1, 5, none⟩ = some (.int .u16 (k0 : Int)) ∧ W.cell? ⟨b1, 6, none⟩ = some (.int .u16 (k1 : Int)) ∧ W.cell? ⟨b1, 7, none⟩ = some (.int .u16 (k2 : Int)))) ∧ (W.cell? ⟨b1, 8, none⟩ = some (.int .u8 (br : Int)) ∧ W.cell? ⟨b1, 9, none⟩ = some (.int .u8 (bn : Int))) from by
    have h := (HC2.out.below HB3.out HC2.out.lt).below hb lb1
    exact ⟨⟨⟨h.cell 0, h.cell 1, h.cell 2, h.cell 3, h.cell 4⟩, h.cell 5, h.cell 6, h.cell 7⟩, h.cell 8, h.cell 9⟩))
  have HS2 := Lib.hid (fun W (hb : Below w3.heap.size w3 W) => (show W.cell? ⟨ob, 0, none⟩ = some (.string on) ∧ W.cell? ⟨ob, 1, none⟩ = some (.slice Ar nr cr) ∧ W.cell? ⟨ob, 2, none⟩ = some (.slice Ad nd cd) ∧ W.cell? ⟨ob, 3, none⟩ = some (.slice Ac nc cc) from by
    have h := KO.below hb KO.lt
    exact ⟨h.cell 0, h.cell 1, h.cell 2, h.cell 3⟩))
  have HS := Lib.hid (fun W (hb : Below w3.heap.size w3 W) => And.intro (HS1.out W hb).1 (HS2.out W hb))
  have hBBr : ∀ (L : Nat → Bool) (i : Nat) (w w' : World), Below w.heap.size w w' → Below w3.heap.size w3 w → Below w3.heap.size w3 w' := fun _ _ _ _ h1 h2 => Bt h2 h1
  have HND := Lib.hid hnd
  have HNC := Lib.hid hnc
  clear hR2 hD2 hC2 hw3 hob KO hB23 lb1 p0 p1 p2 hnd hnc hbr hrk1 hrk2 hq1
  refine region_blocks (by kernel_rfl) ?_
  refine from_lawW 11 ES2 (fun _ W => Below w3.heap.size w3 W) (FS2 b1 ob on Ar Ad Ac nr cr nd cd nc cc e0 e1 e2 e3 e4 k0 k1 k2 w3.heap.size rg ks) VS2 (by kernel_rfl) rfl (FS2_V _ _ _ _ _ _ _ _ _ _ _ _ _ _ _ _ _ _ _ _ _ _ _) (by kernel_rfl) (by kernel_rfl) ((B0 w3).drew) ⟨?_, ?_, ?_, ?_, ?_, ?_, ?_, ?_, ?_, ?_, ?_, trivial⟩ ?_
  · refine OpFactW.value rfl (FS2_below _ _ _ _ _ _ _ _ _ _ _ _ _ _ _ _ _ _ _ _ _ _ _) hBBr fun L a w2 hl hf D hb => ?_
    have h0 : sl a 5 = .pointer (some ⟨ob, 0, none⟩) := hf 5 (by kernel_rfl)
    have es := HS.out w2 hb
    refine ⟨.agg #[.string on, .slice Ar nr cr, .slice Ad nd cd, .slice Ac nc cc], w2, ?_, B0 _, fun s _ h => h 9 rfl⟩
    unfold sl at h0
    simp at h0
    simp [go_sem, h0, es]
  · refine OpFactW.value rfl (FS2_below _ _ _ _ _ _ _ _ _ _ _ _ _ _ _ _ _ _ _ _ _ _ _) hBBr fun L a w2 hl hf D hb => ?_
    have h0 : sl a 5 = .pointer (some ⟨ob, 0, none⟩) := hf 5 (by kernel_rfl)
    have es := HS.out w2 hb
    refine ⟨.agg #[.string on, .slice Ar nr cr, .slice Ad nd cd, .slice Ac nc cc], w2, ?_, B0 _, fun s _ h => h 10 rfl⟩
    unfold sl at h0
    simp at h0
    simp [go_sem, h0, es]
  · refine OpFactW.value rfl (FS2_below _ _ _ _ _ _ _ _ _ _ _ _ _ _ _ _ _ _ _ _ _ _ _) hBBr fun L a w2 hl hf D hb => ?_
    have h0 : sl a 3 = .pointer (some ⟨b1, 0, none⟩) := hf 3 (by kernel_rfl)
    refine ⟨.pointer (some ⟨b1, 0, none⟩), w2, ?_, B0 _, fun s _ h => h 11 rfl⟩
    unfold sl at h0
    simp at h0
    simp [go_sem, h0]
  · refine OpFactW.value rfl (FS2_below _ _ _ _ _ _ _ _ _ _ _ _ _ _ _ _ _ _ _ _ _ _ _) hBBr fun L a w2 hl hf D hb => ?_
    have h0 : sl a 11 = .pointer (some ⟨b1, 0, none⟩) := D 2 (by kernel_rfl)
    have es := HS.out w2 hb
    refine ⟨.agg #[.int .u8 (e0 : Int), .int .u8 (e1 : Int), .int .u8 (e2 : Int), .int .u8 (e3 : Int), .int .u8 (e4 : Int)], w2, ?_, B0 _, fun s _ h => h 12 rfl⟩
    unfold sl at h0
    simp at h0
    simp [go_sem, h0, es]
  · refine OpFactW.call rfl (FS2_below _ _ _ _ _ _ _ _ _ _ _ _ _ _ _ _ _ _ _ _ _ _ _) hBBr fun L a w2 hl hf D hb => ?_
    have h11 : sl a 10 = .agg #[.string on, .slice Ar nr cr, .slice Ad nd cd, .slice Ac nc cc] := D 1 (by kernel_rfl)
    have h12 : sl a 12 = .agg #[.int .u8 (e0 : Int), .int .u8 (e1 : Int), .int .u8 (e2 : Int), .int .u8 (e3 : Int), .int .u8 (e4 : Int)] := D 3 (by kernel_rfl)
    refine ⟨17, #[.agg #[.string on, .slice Ar nr cr, .slice Ad nd cd, .slice Ac nc cc], .agg #[.int .u8 (e0 : Int), .int .u8 (e1 : Int), .int .u8 (e2 : Int), .int .u8 (e3 : Int), .int .u8 (e4 : Int)]], ?_, (HDRW.out w2 hb).mono ?_⟩
    · unfold sl at h11 h12
      simp at h11 h12
      simp [go_sem, h11, h12]
    · rintro e w' ⟨cs, rfl, hl, hr, hb3⟩
      exact ⟨_, rfl, hb3, fun s _ h => ⟨cs, h 13 rfl, relRg.mono hr fun b q => q.more (Below.size hb)⟩⟩
  · refine OpFactW.value rfl (FS2_below _ _ _ _ _ _ _ _ _ _ _ _ _ _ _ _ _ _ _ _ _ _ _) hBBr fun L a w2 hl hf D hb => ?_
    have h0 : sl a 5 = .pointer (some ⟨ob, 0, none⟩) := hf 5 (by kernel_rfl)
    have es := HS.out w2 hb
    refine ⟨.agg #[.string on, .slice Ar nr cr, .slice Ad nd cd, .slice Ac nc cc], w2, ?_, B0 _, fun s _ h => h 14 rfl⟩
    unfold sl at h0
    simp at h0
    simp [go_sem, h0, es]
  · refine OpFactW.value rfl (FS2_below _ _ _ _ _ _ _ _ _ _ _ _ _ _ _ _ _ _ _ _ _ _ _) hBBr fun L a w2 hl hf D hb => ?_
    have h0 : sl a 3 = .pointer (some ⟨b1, 0, none⟩) := hf 3 (by kernel_rfl)
    refine ⟨.pointer (some ⟨b1, 5, none⟩), w2, ?_, B0 _, fun s _ h => h 15 rfl⟩
    unfold sl at h0
    simp at h0
    simp [go_sem, h0]
  · refine OpFactW.value rfl (FS2_below _ _ _ _ _ _ _ _ _ _ _ _ _ _ _ _ _ _ _ _ _ _ _) hBBr fun L a w2 hl hf D hb => ?_
    have h0 : sl a 15 = .pointer (some ⟨b1, 5, none⟩) := D 6 (by kernel_rfl)
    have es := HS.out w2 hb
    refine ⟨.agg #[.int .u16 (k0 : Int), .int .u16 (k1 : Int), .int .u16 (k2 : Int)], w2, ?_, B0 _, fun s _ h => h 16 rfl⟩
    unfold sl at h0
    simp at h0
    simp [go_sem, h0, es]
  · refine OpFactW.call rfl (FS2_below _ _ _ _ _ _ _ _ _ _ _ _ _ _ _ _ _ _ _ _ _ _ _) hBBr fun L a w2 hl hf D hb => ?_
    have h11 : sl a 14 = .agg #[.string on, .slice Ar nr cr, .slice Ad nd cd, .slice Ac nc cc] := D 5 (by kernel_rfl)
    have h12 : sl a 16 = .agg #[.int .u16 (k0 : Int), .int .u16 (k1 : Int), .int .u16 (k2 : Int)] := D 7 (by kernel_rfl)
    refine ⟨18, #[.agg #[.string on, .slice Ar nr cr, .slice Ad nd cd, .slice Ac nc cc], .agg #[.int .u16 (k0 : Int), .int .u16 (k1 : Int), .int .u16 (k2 : Int)]], ?_, (HPRW.out w2 hb).mono ?_⟩
    · unfold sl at h11 h12
      simp at h11 h12
      simp [go_sem, h11, h12]
    · rintro e w' ⟨v, rfl, hr, hb3⟩
      exact ⟨_, rfl, hb3, fun s _ h => (show SlA _ w' (s 17) ks from by rw [h 17 rfl]; exact Sl.monoF relNt hr fun b q => q.more (Below.size hb))⟩
  · refine OpFactW.value rfl (FS2_below _ _ _ _ _ _ _ _ _ _ _ _ _ _ _ _ _ _ _ _ _ _ _) hBBr fun L a w2 hl hf D hb => ?_
    have h11 : sl a 9 = .agg #[.string on, .slice Ar nr cr, .slice Ad nd cd, .slice Ac nc cc] := D 0 (by kernel_rfl)
    obtain ⟨cs, h12, hr⟩ : RgA _ w2 (sl a 13) rg := D 4 (by kernel_rfl)
    have h13 : SlA _ w2 (sl a 17) ks := D 8 (by kernel_rfl)
    obtain ⟨vs, rfl, hs⟩ := id hr
    obtain ⟨As, ns, rfl, -⟩ := Sl.openF hs
    obtain ⟨Ak, nk, h14, -⟩ := Sl.openF h13
    refine ⟨.agg #[.string on, .slice Ar nr cr, .slice Ad nd cd, .slice Ac nc cc, .slice As rg.stops.length ns, .int .u64 (rg.cpl : Int), .int .u64 (rg.off : Int), .slice Ak ks.length nk, .int .i64 0, .int .i64 0], w2, ?_, B0 _, fun s _ h => ⟨_, _, h 18 rfl, hs, by rw [← h14]; exact h13⟩⟩
    unfold sl at h11 h12 h14
    simp at h11 h12 h14
    simp [go_sem, h11, h12, h14]
  · refine OpFactW.value rfl (FS2_below _ _ _ _ _ _ _ _ _ _ _ _ _ _ _ _ _ _ _ _ _ _ _) hBBr fun L a w2 hl hf D hb => ?_
    refine ⟨.pointer (some ⟨w2.heap.size, 0, none⟩), w2.alloc (.cells snd0 53), ?_, Ba (B0 w2) _, fun s _ h => ⟨_, h 6 rfl, Below.size hb, Blk.new _ _ _⟩⟩
    unfold snd0
    simp [go_sem]
  intro L9 y9 w9 hb9 hF9
  obtain ⟨vs, vk, e18, hs9, hk9⟩ : SndA on (.slice Ar nr cr) (.slice Ad nd cd) (.slice Ac nc cc) w3.heap.size w9 (y9 18) rg ks := hF9 9 (by decide) rfl
  obtain ⟨sb, e6, hsb, hK9⟩ : sndP w9 (y9 6) w3.heap.size := hF9 10 (by decide) rfl
  obtain ⟨As, cs9, rfl, -⟩ := Sl.openF hs9
  obtain ⟨Ak, ck9, rfl, -⟩ := Sl.openF hk9
  have f0 := hK9.frozen
  have s0 := hK9.cell
  have q0 := s0 0
  have q1 := s0 1
  have q2 := s0 2
  have q3 := s0 3
  have q4 := s0 4
  have q5 := s0 5
  have q6 := s0 6
  have q7 := s0 7
  have q8 := s0 8
  have q9 := s0 9
  unfold snd0 at q0 q1 q2 q3 q4 q5 q6 q7 q8 q9
  simp only [List.getElem?_toArray, List.getElem?_cons_zero, List.getElem?_cons_succ] at q0 q1 q2 q3 q4 q5 q6 q7 q8 q9
  have HB9 := Lib.hid (show Below w3.heap.size w3 w9 from hb9)
  have HK9 := Lib.hid hK9
  have HSS := Lib.hid hs9
  have HKS := Lib.hid hk9
  have HFZ := Lib.hid f0
  have f00 := f0 0
  have f01 := f0 1
  have f02 := f0 2
  have f03 := f0 3
  have f04 := f0 4
  have f05 := f0 5
  have f06 := f0 6
  have f07 := f0 7
  have f08 := f0 8
  have f09 := f0 9
  clear hF9 hb9 hK9 f0 s0 hs9 hk9
  rw [aft11 (d0 := 9) (d1 := 10) (d2 := 11) (d3 := 12) (d4 := 13) (d5 := 14) (d6 := 15) (d7 := 16) (d8 := 17) (d9 := 18) (d10 := 6) (by kernel_rfl) rfl]
  rw [e18, e6]
  simp only [List.set_cons_succ, List.set_cons_zero]
  refine from_list 12 (by kernel_rfl) (by simp only [List.take_succ_cons, List.take_zero, List.drop_succ_cons, List.drop_zero]; exact rfl) ?_
  (intro Q' hQ' hX; clear hX)
  go_wp2_with fail
  refine from_end rfl ?_
  obtain ⟨w4, hw4⟩ : ∃ w4 : World, ((((((((((w9.setCell ⟨sb, 0, none⟩ (.string on)).setCell ⟨sb, 1, none⟩ (.slice Ar nr cr)).setCell ⟨sb, 2, none⟩ (.slice Ad nd cd)).setCell ⟨sb, 3, none⟩ (.slice Ac nc cc)).setCell ⟨sb, 4, none⟩ (.slice As rg.stops.length cs9)).setCell ⟨sb, 5, none⟩ (.int .u64 (rg.cpl : Int))).setCell ⟨sb, 6, none⟩ (.int .u64 (rg.off : Int))).setCell ⟨sb, 7, none⟩ (.slice Ak ks.length ck9)).setCell ⟨sb, 8, none⟩ (.int .i64 0)).setCell ⟨sb, 9, none⟩ (.int .i64 0)) = w4 := ⟨_, rfl⟩
  have K4 : Blk w4 sb 53 #[.string on, .slice Ar nr cr, .slice Ad nd cd, .slice Ac nc cc, .slice As rg.stops.length cs9, .int .u64 (rg.cpl : Int), .int .u64 (rg.off : Int), .slice Ak ks.length ck9, .int .i64 0, .int .i64 0] := by
    rw [← hw4]
    have h := ((((((((((HK9.out.set_ 0 (.string on)).set_ 1 (.slice Ar nr cr)).set_ 2 (.slice Ad nd cd)).set_ 3 (.slice Ac nc cc)).set_ 4 (.slice As rg.stops.length cs9)).set_ 5 (.int .u64 (rg.cpl : Int))).set_ 6 (.int .u64 (rg.off : Int))).set_ 7 (.slice Ak ks.length ck9)).set_ 8 (.int .i64 0)).set_ 9 (.int .i64 0))
    unfold snd0 at h
    simpa using h
  have HB4 : Hid (Below w3.heap.size w3 w4) := Lib.hid (by rw [← hw4]; exact (Bs (Bs (Bs (Bs (Bs (Bs (Bs (Bs (Bs (Bs HB9.out _ hsb) _ hsb) _ hsb) _ hsb) _ hsb) _ hsb) _ hsb) _ hsb) _ hsb) _ hsb))
  have HA4 : Hid (∀ F : Nat → Prop, (∀ c, F c → c ≠ sb) → Agree F w9 w4) := Lib.hid fun F hF => by
    rw [← hw4]
    exact (((((((((Agree.setCell _ hF).trans (Agree.setCell _ hF)).trans (Agree.setCell _ hF)).trans (Agree.setCell _ hF)).trans (Agree.setCell _ hF)).trans (Agree.setCell _ hF)).trans (Agree.setCell _ hF)).trans (Agree.setCell _ hF)).trans (Agree.setCell _ hF)).trans (Agree.setCell _ hF)
  have HZ4 : Hid (w4.heap.size = w9.heap.size) := Lib.hid (by rw [← hw4]; simp [World.setCell])
  rw [hw4]
  clear hw4 q0 q1 q2 q3 q4 q5 q6 q7 q8 q9 f00 f01 f02 f03 f04 f05 f06 f07 f08 f09
  have k8 : w4.cell? ⟨sb, 8, none⟩ = some (.int .i64 0) := K4.cell 8
  have fk8 := K4.frozen 8
  obtain ⟨⟨-, r8, r9⟩, r1, r2, r3⟩ : (True ∧ w4.cell? ⟨b1, 8, none⟩ = some (.int .u8 (br : Int)) ∧ w4.cell? ⟨b1, 9, none⟩ = some (.int .u8 (bn : Int))) ∧ w4.cell? ⟨ob, 1, none⟩ = some (.slice Ar nr cr) ∧ True ∧ True := ⟨⟨trivial, (HS1.out w4 HB4.out).2⟩, (HS2.out w4 HB4.out).2.1, trivial, trivial⟩
  have HK4 := Lib.hid K4
  have hbr : IntKind.i64.wrap (br : Int) = (br : Int) := by rw [IntKind.wrap_i64]; omega
  have hrk1 : (br : Int).tmod (nr : Int) = (rk : Int) := HRKE.out.trans HRKF.out
  have hrk2 : (br : Int) % (nr : Int) = (rk : Int) := HRKF.out
  clear K4 r2 r3
  go_upto_region 4 with fail
  obtain ⟨w5, hw5⟩ : ∃ w5 : World, w4.setCell ⟨sb, 8, none⟩ (.int .i64 (rk : Int)) = w5 := ⟨_, rfl⟩
  have K5 : Blk w5 sb 53 #[.string on, .slice Ar nr cr, .slice Ad nd cd, .slice Ac nc cc, .slice As rg.stops.length cs9, .int .u64 (rg.cpl : Int), .int .u64 (rg.off : Int), .slice Ak ks.length ck9, .int .i64 (rk : Int), .int .i64 0] := by
    rw [← hw5]
    have h := HK4.out.set_ 8 (.int .i64 (rk : Int))
    simpa using h
  have HB5 : Hid (Below w3.heap.size w3 w5) := Lib.hid (by rw [← hw5]; exact Bs HB4.out _ hsb)
  have HA5 : Hid (∀ F : Nat → Prop, (∀ c, F c → c ≠ sb) → Agree F w9 w5) := Lib.hid fun F hF => by
    rw [← hw5]
    exact (HA4.out F hF).trans (Agree.setCell _ hF)
  have HZ5 : Hid (w5.heap.size = w9.heap.size) := Lib.hid (by rw [← hw5, ← HZ4.out]; simp [World.setCell])
  rw [hw5]
  clear hw5 k8 fk8 r8 r9 r1 hbr hrk1 hrk2
  have hrl5 : rk < ors.length := by rw [HRL.out]; exact hrkn
  obtain ⟨Ar5, cr5, e5, -, -, hat⟩ := Sl.openF (HR3.out w5 HB5.out)
  obtain ⟨ad, cse, eA, hFa, -, ⟨vw, rfl, hwd⟩, hfl⟩ := hat rk hrl5
  injection e5 with e51 e52 e53
  subst e51
  subst eA
  obtain ⟨Aw, cw, rfl, -⟩ := Sl.openF hwd
  have hwl : ors[rk].wind.length = nw := by
    rw [← HNW.out]
    unfold windN
    rw [List.getElem?_eq_getElem hrl5]
  rw [hwl] at hfl
  obtain ⟨p, hpA⟩ : ∃ p, ad.add (rk * 6) = p := ⟨_, rfl⟩
  rw [hpA] at hfl
  have hpw := hfl.fs 4 rfl
  have hpb : p.block < w5.heap.size := by rw [← hpA, block_of_add]; exact Nat.lt_of_lt_of_le (HF2.out _ hFa) HB5.out.size
  have hq1 : (bn : Int).tmod (nw : Int) = (q : Int) := HQE.out
  have HS4 := Lib.hid (fun W (hb : Below w5.heap.size w5 W) => (show (W.cell? ⟨b1, 9, none⟩ = some (.int .u8 (bn : Int)) ∧ W.cell? ⟨ob, 1, none⟩ = some (.slice (some ad) nr cr)) ∧ W.cell? ⟨sb, 8, none⟩ = some (.int .i64 (rk : Int)) ∧ W.cell? ⟨p.block, p.off + 5, none⟩ = some (.slice Aw nw cw) from
    ⟨⟨(HS1.out W (Bt HB5.out hb)).2.2, (HS2.out W (Bt HB5.out hb)).2.1⟩, (Bc hb K5.lt).trans (K5.cell 8), (Bc hb hpb).trans hpw⟩))
  have hBB5 : ∀ (L : Nat → Bool) (i : Nat) (w w' : World), Below w.heap.size w w' → Below w5.heap.size w5 w → Below w5.heap.size w5 w' := fun _ _ _ _ h1 h2 => Bt h2 h1
  have HK5 := Lib.hid K5
  clear HS hat hFa hwd hfl hwl hpw hpb K5 e52 e53
  refine region_blocks (by kernel_rfl) ?_
  refine from_lawW 13 ES4 (fun _ W => Below w5.heap.size w5 W) (FS4 b1 ob sb nr cr bn rk nw cw q Aw ad p) VS4 (by kernel_rfl) rfl (FS4_V _ _ _ _ _ _ _ _ _ _ _ _ _) (by kernel_rfl) (by kernel_rfl) ((B0 w5).drew) ⟨?_, ?_, ?_, ?_, ?_, ?_, ?_, ?_, ?_, ?_, ?_, ?_, ?_, trivial⟩ ?_
  · refine OpFactW.value rfl (FS4_below _ _ _ _ _ _ _ _ _ _ _ _ _) hBB5 fun L a w2 hl hf D hb => ?_
    have h0 : sl a 3 = .pointer (some ⟨b1, 0, none⟩) := hf 3 (by kernel_rfl)
    refine ⟨.pointer (some ⟨b1, 9, none⟩), w2, ?_, B0 _, fun s _ h => h 28 rfl⟩
    unfold sl at h0
    simp at h0
    simp [go_sem, h0]
  · refine OpFactW.value rfl (FS4_below _ _ _ _ _ _ _ _ _ _ _ _ _) hBB5 fun L a w2 hl hf D hb => ?_
    have h0 : sl a 28 = .pointer (some ⟨b1, 9, none⟩) := D 0 (by kernel_rfl)
    have es := HS4.out w2 hb
    refine ⟨.int .u8 (bn : Int), w2, ?_, B0 _, fun s _ h => h 29 rfl⟩
    unfold sl at h0
    simp at h0
    simp [go_sem, h0, es]
  · refine OpFactW.value rfl (FS4_below _ _ _ _ _ _ _ _ _ _ _ _ _) hBB5 fun L a w2 hl hf D hb => ?_
    have h11 : sl a 29 = .int .u8 (bn : Int) := D 1 (by kernel_rfl)
    refine ⟨.int .i64 (bn : Int), w2, ?_, B0 _, fun s _ h => h 30 rfl⟩
    unfold sl at h11
    simp at h11
    simp [go_sem, h11, hbw]
  · refine OpFactW.value rfl (FS4_below _ _ _ _ _ _ _ _ _ _ _ _ _) hBB5 fun L a w2 hl hf D hb => ?_
    have h0 : sl a 5 = .pointer (some ⟨ob, 0, none⟩) := hf 5 (by kernel_rfl)
    refine ⟨.pointer (some ⟨ob, 1, none⟩), w2, ?_, B0 _, fun s _ h => h 31 rfl⟩
    unfold sl at h0
    simp at h0
    simp [go_sem, h0]
  · refine OpFactW.value rfl (FS4_below _ _ _ _ _ _ _ _ _ _ _ _ _) hBB5 fun L a w2 hl hf D hb => ?_
    have h0 : sl a 31 = .pointer (some ⟨ob, 1, none⟩) := D 3 (by kernel_rfl)
    have es := HS4.out w2 hb
    refine ⟨.slice (some ad) nr cr, w2, ?_, B0 _, fun s _ h => h 32 rfl⟩
    unfold sl at h0
    simp at h0
    simp [go_sem, h0, es]
  · refine OpFactW.value rfl (FS4_below _ _ _ _ _ _ _ _ _ _ _ _ _) hBB5 fun L a w2 hl hf D hb => ?_
    have h0 : sl a 6 = .pointer (some ⟨sb, 0, none⟩) := hf 6 (by kernel_rfl)
    refine ⟨.pointer (some ⟨sb, 8, none⟩), w2, ?_, B0 _, fun s _ h => h 33 rfl⟩
    unfold sl at h0
    simp at h0
    simp [go_sem, h0]
  · refine OpFactW.value rfl (FS4_below _ _ _ _ _ _ _ _ _ _ _ _ _) hBB5 fun L a w2 hl hf D hb => ?_
    have h11 : sl a 33 = .pointer (some ⟨sb, 8, none⟩) := D 5 (by kernel_rfl)
    refine ⟨.pointer (some ⟨sb, 8, none⟩), w2, ?_, B0 _, fun s _ h => h 34 rfl⟩
    unfold sl at h11
    simp at h11
    simp [go_sem, h11]
  · refine OpFactW.value rfl (FS4_below _ _ _ _ _ _ _ _ _ _ _ _ _) hBB5 fun L a w2 hl hf D hb => ?_
    have h0 : sl a 34 = .pointer (some ⟨sb, 8, none⟩) := D 6 (by kernel_rfl)
    have es := HS4.out w2 hb
    refine ⟨.int .i64 (rk : Int), w2, ?_, B0 _, fun s _ h => h 35 rfl⟩
    unfold sl at h0
    simp at h0
    simp [go_sem, h0, es]
  · refine OpFactW.value rfl (FS4_below _ _ _ _ _ _ _ _ _ _ _ _ _) hBB5 fun L a w2 hl hf D hb => ?_
    have h11 : sl a 32 = .slice (some ad) nr cr := D 4 (by kernel_rfl)
    have h12 : sl a 35 = .int .i64 (rk : Int) := D 7 (by kernel_rfl)
    refine ⟨.pointer (some p), w2, ?_, B0 _, fun s _ h => h 36 rfl⟩
    unfold sl at h11 h12
    simp at h11 h12
    simp [go_sem, h11, h12, hkI, hpA]
  · refine OpFactW.value rfl (FS4_below _ _ _ _ _ _ _ _ _ _ _ _ _) hBB5 fun L a w2 hl hf D hb => ?_
    have h11 : sl a 36 = .pointer (some p) := D 8 (by kernel_rfl)
    refine ⟨.pointer (some ⟨p.block, p.off + 5, none⟩), w2, ?_, B0 _, fun s _ h => h 37 rfl⟩
    unfold sl at h11
    simp at h11
    simp [go_sem, h11]
  · refine OpFactW.value rfl (FS4_below _ _ _ _ _ _ _ _ _ _ _ _ _) hBB5 fun L a w2 hl hf D hb => ?_
    have h0 : sl a 37 = .pointer (some ⟨p.block, p.off + 5, none⟩) := D 9 (by kernel_rfl)
    have es := HS4.out w2 hb
    refine ⟨.slice Aw nw cw, w2, ?_, B0 _, fun s _ h => h 38 rfl⟩
    unfold sl at h0
    simp at h0
    simp [go_sem, h0, es]
  · refine OpFactW.value rfl (FS4_below _ _ _ _ _ _ _ _ _ _ _ _ _) hBB5 fun L a w2 hl hf D hb => ?_
    have h11 : sl a 38 = .slice Aw nw cw := D 10 (by kernel_rfl)
    refine ⟨.int .i64 (nw : Int), w2, ?_, B0 _, fun s _ h => h 39 rfl⟩
    unfold sl at h11
    simp at h11
    simp [go_sem, h11]
  · refine OpFactW.value rfl (FS4_below _ _ _ _ _ _ _ _ _ _ _ _ _) hBB5 fun L a w2 hl hf D hb => ?_
    have h11 : sl a 30 = .int .i64 (bn : Int) := D 2 (by kernel_rfl)
    have h12 : sl a 39 = .int .i64 (nw : Int) := D 11 (by kernel_rfl)
    refine ⟨.int .i64 (q : Int), w2, ?_, B0 _, fun s _ h => h 40 rfl⟩
    unfold sl at h11 h12
    simp at h11 h12
    simp [go_sem, h11, h12, hq1, hq0]
  intro L6 y6 w6 hb6 hF6
  have e40 := hF6 12 (by decide) rfl
  simp only [FS4] at e40
  have HB6 := Lib.hid (show Below w5.heap.size w5 w6 from hb6)
  have K6 := HK5.out.below HB6.out HK5.out.lt
  have k9 : w6.cell? ⟨sb, 9, none⟩ = some (.int .i64 0) := K6.cell 9
  have fk9 := K6.frozen 9
  have HK6 := Lib.hid K6
  clear hF6 hb6 K6
  rw [aft13 (d0 := 28) (d1 := 29) (d2 := 30) (d3 := 31) (d4 := 32) (d5 := 33) (d6 := 34) (d7 := 35) (d8 := 36) (d9 := 37) (d10 := 38) (d11 := 39) (d12 := 40) (by kernel_rfl) rfl]
  rw [e40]
  simp only [List.set_cons_succ, List.set_cons_zero]
  refine from_list 16 (by kernel_rfl) (by simp only [List.take_succ_cons, List.take_zero, List.drop_succ_cons, List.drop_zero]; exact rfl) ?_
  (intro Q' hQ' hX; clear hX)
  go_wp2_with fail
  refine from_end rfl ?_
  obtain ⟨w7, hw7⟩ : ∃ w7 : World, w6.setCell ⟨sb, 9, none⟩ (.int .i64 (q : Int)) = w7 := ⟨_, rfl⟩
  have K7 : Blk w7 sb 53 #[.string on, .slice (some ad) nr cr, .slice Ad nd cd, .slice Ac nc cc, .slice As rg.stops.length cs9, .int .u64 (rg.cpl : Int), .int .u64 (rg.off : Int), .slice Ak ks.length ck9, .int .i64 (rk : Int), .int .i64 (q : Int)] := by
    rw [← hw7]
    have h := HK6.out.set_ 9 (.int .i64 (q : Int))
    simpa using h
  have HB7 : Hid (Below w3.heap.size w3 w7) := Lib.hid (by rw [← hw7]; exact Bs (Bt HB5.out HB6.out) _ hsb)
  have HA7 : Hid (∀ F : Nat → Prop, (∀ c, F c → c ≠ sb ∧ c < w9.heap.size) → Agree F w9 w7) := Lib.hid fun F hF => by
    rw [← hw7]
    exact ((HA5.out F fun c hc => (hF c hc).1).trans (Agree.below HB6.out fun c hc => by rw [HZ5.out]; exact (hF c hc).2)).trans (Agree.setCell _ fun c hc => (hF c hc).1)
  have HZ7 : Hid (w9.heap.size ≤ w7.heap.size) := Lib.hid (by rw [← hw7, ← HZ5.out]; have := HB6.out.size; simp [World.setCell]; omega)
  rw [hw7]
  clear hw7 k9 fk9 hq1
  have z0 := K7.cell 0
  have z1 := K7.cell 1
  have z2 := K7.cell 2
  have z3 := K7.cell 3
  have z4 := K7.cell 4
  have z5 := K7.cell 5
  have z6 := K7.cell 6
  have z7 := K7.cell 7
  have z8 := K7.cell 8
  have z9 := K7.cell 9
  simp only [List.getElem?_toArray, List.getElem?_cons_zero, List.getElem?_cons_succ] at z0 z1 z2 z3 z4 z5 z6 z7 z8 z9
  have KR := HC3.out.below (Bt HB3.out HB7.out) HC3.out.lt
  have q0 := KR.cell 0
  have q1 := KR.cell 1
  have q2 := KR.cell 2
  have q3 := KR.cell 3
  have q4 := KR.cell 4
  have q5 := KR.cell 5
  have q6 := KR.cell 6
  have q7 := KR.cell 7
  have q8 := KR.cell 8
  have q9 := KR.cell 9
  unfold snd0 at q0 q1 q2 q3 q4 q5 q6 q7 q8 q9
  simp only [List.getElem?_toArray, List.getElem?_cons_zero, List.getElem?_cons_succ] at q0 q1 q2 q3 q4 q5 q6 q7 q8 q9
  have f00 := KR.frozen 0
  have f01 := KR.frozen 1
  have f02 := KR.frozen 2
  have f03 := KR.frozen 3
  have f04 := KR.frozen 4
  have f05 := KR.frozen 5
  have f06 := KR.frozen 6
  have f07 := KR.frozen 7
  have f08 := KR.frozen 8
  have f09 := KR.frozen 9
  have HKR := Lib.hid KR
  clear K7 KR
  go_wp2_with fail
  obtain ⟨W8, hW8⟩ : ∃ W8 : World, ((((((((((w7.setCell ⟨b2, 0, none⟩ (.string on)).setCell ⟨b2, 1, none⟩ (.slice (some ad) nr cr)).setCell ⟨b2, 2, none⟩ (.slice Ad nd cd)).setCell ⟨b2, 3, none⟩ (.slice Ac nc cc)).setCell ⟨b2, 4, none⟩ (.slice As rg.stops.length cs9)).setCell ⟨b2, 5, none⟩ (.int .u64 (rg.cpl : Int))).setCell ⟨b2, 6, none⟩ (.int .u64 (rg.off : Int))).setCell ⟨b2, 7, none⟩ (.slice Ak ks.length ck9)).setCell ⟨b2, 8, none⟩ (.int .i64 (rk : Int))).setCell ⟨b2, 9, none⟩ (.int .i64 (q : Int))) = W8 := ⟨_, rfl⟩
  rw [hW8]
  have KZ : Blk W8 b2 53 #[.string on, .slice (some ad) nr cr, .slice Ad nd cd, .slice Ac nc cc, .slice As rg.stops.length cs9, .int .u64 (rg.cpl : Int), .int .u64 (rg.off : Int), .slice Ak ks.length ck9, .int .i64 (rk : Int), .int .i64 (q : Int)] := by
    rw [← hW8]
    have h := ((((((((((HKR.out.set_ 0 (.string on)).set_ 1 (.slice (some ad) nr cr)).set_ 2 (.slice Ad nd cd)).set_ 3 (.slice Ac nc cc)).set_ 4 (.slice As rg.stops.length cs9)).set_ 5 (.int .u64 (rg.cpl : Int))).set_ 6 (.int .u64 (rg.off : Int))).set_ 7 (.slice Ak ks.length ck9)).set_ 8 (.int .i64 (rk : Int))).set_ 9 (.int .i64 (q : Int)))
    unfold snd0 at h
    simpa using h
  have HBZ : Below w.heap.size w7 W8 := by
    have h1 : w.heap.size ≤ b2 := HL1.out.2.2.2
    have h0 : Below w.heap.size w7 w7 := Below.refl _ w7
    rw [← hW8]
    exact ((((((((((h0.setCell h1 _).setCell h1 _).setCell h1 _).setCell h1 _).setCell h1 _).setCell h1 _).setCell h1 _).setCell h1 _).setCell h1 _).setCell h1 _)
  have HSW : W8.heap.size = w7.heap.size := by rw [← hW8]; simp [World.setCell]
  have HAG : ∀ F : Nat → Prop, (∀ c, F c → b2 < c) → Agree F w7 W8 := fun F hF => by
    have h1 : ∀ c, F c → c ≠ b2 := fun c hc e => by have := hF c hc; omega
    rw [← hW8]
    exact (((((((((Agree.setCell _ h1).trans (Agree.setCell _ h1)).trans (Agree.setCell _ h1)).trans (Agree.setCell _ h1)).trans (Agree.setCell _ h1)).trans (Agree.setCell _ h1)).trans (Agree.setCell _ h1)).trans (Agree.setCell _ h1)).trans (Agree.setCell _ h1)).trans (Agree.setCell _ h1)
  have x0 := KZ.cell 0
  have x1 := KZ.cell 1
  have x2 := KZ.cell 2
  have x3 := KZ.cell 3
  have x4 := KZ.cell 4
  have x5 := KZ.cell 5
  have x6 := KZ.cell 6
  have x7 := KZ.cell 7
  have x8 := KZ.cell 8
  have x9 := KZ.cell 9
  simp only [List.getElem?_toArray, List.getElem?_cons_zero, List.getElem?_cons_succ] at x0 x1 x2 x3 x4 x5 x6 x7 x8 x9
  refine bodyPost_ret (v := .agg #[.string on, .slice (some ad) nr cr, .slice Ad nd cd, .slice Ac nc cc, .slice As rg.stops.length cs9, .int .u64 (rg.cpl : Int), .int .u64 (rg.off : Int), .slice Ak ks.length ck9, .int .i64 (rk : Int), .int .i64 (q : Int)]) (by simp [results, Tryz.f8, go_sem, x0, x1, x2, x3, x4, x5, x6, x7, x8, x9]) rfl ?_
  have g1 := HB1.out.size
  have g2 := HB2.out.size
  have g3 := HB3.out.size
  have g4 := HB7.out.size
  have g5 := HL1.out.2.2.1
  have g6 := HZ7.out
  have g7 := HB9.out.size
  have g9 : w2.heap.size ≤ w3.heap.size := HZ23.out
  refine ⟨_, rfl, rfl, ?_, (HB1.out.trans (Below.mono (Bt HB3.out HB7.out) HB1.out.size)).trans HBZ⟩
  rw [HFIN.out, HSW]
  refine ⟨_, _, _, _, _, rfl, ?_, ?_, ?_, ?_, ?_⟩
  · exact Sl.monoF relRnk (Sl.keepF relRnk (HR3.out w7 HB7.out) (HAG _ fun c hc => by omega)) fun c hc => ⟨by omega, by omega⟩
  · exact Sl.monoF relDvs (Sl.keepF relDvs (HD3.out w7 HB7.out) (HAG _ fun c hc => by omega)) fun c hc => ⟨by omega, by omega⟩
  · exact Sl.monoF relCpl (Sl.keepF relCpl (HC3'.out w7 HB7.out) (HAG _ fun c hc => by omega)) fun c hc => ⟨by omega, by omega⟩
  · exact Sl.monoF relU64 (Sl.keepF relU64 (Sl.keepF relU64 HSS.out (HA7.out _ fun c hc => ⟨fun e => (hc.2.choose_spec.ne_ HK9.out (by decide)) e, hc.1.2⟩)) (HAG _ fun c hc => by have := hc.1.1; omega)) fun c hc => ⟨by have := hc.1.1; omega, by have := hc.1.2; omega⟩
  · exact Sl.monoF relNt (Sl.keepF relNt (Sl.keepF relNt HKS.out (HA7.out _ fun c hc => ⟨fun e => (hc.2.choose_spec.ne_ HK9.out (by decide)) e, hc.1.2⟩)) (HAG _ fun c hc => by have := hc.1.1; omega)) fun c hc => ⟨by have := hc.1.1; omega, by have := hc.1.2; omega⟩
end Go.Proofs.YtnfpjcjlapljjaaGreatDoor
