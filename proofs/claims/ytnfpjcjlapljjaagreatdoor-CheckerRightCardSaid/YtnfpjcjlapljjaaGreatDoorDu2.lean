/- Law 54's spoiled: words for its end, where all its arms meet. -/
import Derived.Test.YtnfpjcjlapljjaaGreatDoorDq
import Derived.Test.YtnfpjcjlapljjaaGreatDoorDs
import Derived.Test.YtnfpjcjlapljjaaGreatDoorDu
namespace Go.Proofs.YtnfpjcjlapljjaaGreatDoor
open Go Go.RowKit Go.Shelf
open Org
/-- The blocks of the sound that came in, and the call's own from B on, but for one. -/
def SpG (F : Nat → Prop) (B g : Nat) (w : World) : Nat → Prop := fun c => F c ∨ (B ≤ c ∧ c < w.heap.size ∧ c ≠ g)
theorem CopyF.slG {α : Type} {base : Nat} {e t : TypeId} {k : Nat} {R : (Nat → Prop) → World → List Value → α → Prop} {F : Nat → Prop} {w : World} {v : Value} {l : List α} {cur : Array Value} {B g : Nat}
    (hR : RelF R) (h : CopyF base e k R F w v l) (hb : B ≤ base) (hg : Blk w g t cur) (hne : e ≠ t) : Sl (SpG F B g w) k (R (SpG F B g w)) w v l := by
  obtain ⟨hG, A, c, cs, rfl, e2, e3, e4, e5, e6⟩ := h
  rcases e6 with ⟨h0, -, -⟩ | ⟨h0, h⟩
  · exact ⟨A, c, rfl, e2, e3, fun i hi => absurd hi (by omega)⟩
  · have hs := Sl.of_own (R := R F) (l := l) (F := SpG F B g w) h rfl e3 rfl e4 e5 (fun b h1 h2 h3 => .inr ⟨Nat.le_trans hb h1, h2, fun e => own_blk_ne h hg hne (by rw [h3, e])⟩)
    exact hs.monoR fun _ _ q => hR.mono q fun _ h => .inl h
/-- What the end of spoiled needs. -/
def SpT (F : Nat → Prop) (w0 : World) (on : ByteArray) (b ob db b2 gD cD nd BD : Nat) (ods : List Dvs) (w : World) : Prop :=
  ∃ (G : Nat → Prop) (vR vC vS vK vt u1 u2 u3 : Value) (ors : List Rnk) (dv : Dvs) (ocs : List Cpl) (rst : List Nat) (cp of : Nat) (kys : List Nat) (rank num : Int),
    (∀ c, G c → (F c ∨ w0.heap.size ≤ c) ∧ c < w.heap.size ∧ c ≠ gD ∧ c ≠ b ∧ c ≠ b2) ∧
    Blk w ob 40 #[.string on, vR, .slice (some ⟨gD, 0, none⟩) nd cD, vC] ∧
    Blk w b 50 #[.string on, u1, u2, u3, vS, .int .u64 (cp : Int), .int .u64 (of : Int), vK, .int .i64 rank, .int .i64 num] ∧
    Blk w db 80 #[.string dv.name, .bool dv.ped, .int .i64 dv.lo, .int .i64 dv.hi, vt] ∧
    Blk w b2 50 snd0 ∧
    Sl G 6 (RnkC G) w vR ors ∧ Sl G 5 (CpC G) w vC ocs ∧ Sl G 1 (U64R G) w vS rst ∧ Sl G 2 (NtR G) w vK kys ∧ Sl G 4 (StpC G) w vt dv.stops ∧
    CopyF BD 80 5 DvsC G w (.slice (some ⟨gD, 0, none⟩) nd cD) ods ∧
    (∀ x ∈ kys, x < 2 ^ 128) ∧ (∀ x ∈ rst, x < 2 ^ 64) ∧ cp < 2 ^ 64 ∧ of < 2 ^ 64 ∧ Below w0.heap.size w0 w
theorem SpT.of {F : Nat → Prop} {w0 w : World} {on : ByteArray} {b ob db b2 gD cD nd BR BD BC BS : Nat} {ods : List Dvs} {vR vC vS vK vt u1 u2 u3 : Value} {ors : List Rnk} {dv : Dvs} {ocs : List Cpl} {rst : List Nat} {cp of : Nat} {kys : List Nat} {rank num : Int} {cur : Array Value}
    (hF : ∀ c, F c → c < w0.heap.size) (hb0 : w0.heap.size ≤ b) (hb2 : w0.heap.size ≤ b2) (h1 : b < BR) (h2 : b2 < BR) (h3 : BR ≤ BD) (h4 : BR ≤ BC) (h5 : BR ≤ BS) (hbw : Below w0.heap.size w0 w)
    (hg : Blk w gD 80 cur) (hgB : BR ≤ gD)
    (hO : Blk w ob 40 #[.string on, vR, .slice (some ⟨gD, 0, none⟩) nd cD, vC])
    (hB : Blk w b 50 #[.string on, u1, u2, u3, vS, .int .u64 (cp : Int), .int .u64 (of : Int), vK, .int .i64 rank, .int .i64 num])
    (hD : Blk w db 80 #[.string dv.name, .bool dv.ped, .int .i64 dv.lo, .int .i64 dv.hi, vt]) (hZ : Blk w b2 50 snd0)
    (hR : CopyF BR 84 6 RnkC F w vR ors) (hC : CopyF BC 94 5 CpC F w vC ocs) (hS : CopyF BS 42 1 U64R F w vS rst)
    (hK : Sl (SpG F BR gD w) 2 (NtR (SpG F BR gD w)) w vK kys) (hT : Sl (SpG F BR gD w) 4 (StpC (SpG F BR gD w)) w vt dv.stops)
    (hV : CopyF BD 80 5 DvsC F w (.slice (some ⟨gD, 0, none⟩) nd cD) ods)
    (n1 : ∀ x ∈ kys, x < 2 ^ 128) (n2 : ∀ x ∈ rst, x < 2 ^ 64) (n3 : cp < 2 ^ 64) (n4 : of < 2 ^ 64) : SpT F w0 on b ob db b2 gD cD nd BD ods w :=
  ⟨SpG F BR gD w, vR, vC, vS, vK, vt, u1, u2, u3, ors, dv, ocs, rst, cp, of, kys, rank, num,
    fun c hc => by
      have hsz := hbw.size
      rcases hc with hc | ⟨q1, q2, q3⟩
      · have := hF c hc
        exact ⟨.inl hc, by omega, by omega, by omega, by omega⟩
      · exact ⟨.inr (by omega), q2, q3, by omega, by omega⟩,
    hO, hB, hD, hZ, CopyF.slG relRnk hR (Nat.le_refl _) hg (by decide), CopyF.slG relCpl hC h4 hg (by decide), CopyF.slG relU64 hS h5 hg (by decide), hK, hT,
    CopyF.moreG relDvs hV (fun _ h => .inl h) (fun _ c hc q => by
      have q' : gD = c := by simpa [Value.ownBlock] using q
      rcases hc with hc | ⟨-, -, q3⟩
      · have := hF c hc; omega
      · exact q3 q'.symm), n1, n2, n3, n4, hbw⟩
/-- The end: the division stored, then only the boxes b and b2 are written. -/
theorem SpT.done {F G : Nat → Prop} {w0 w w1 w3 : World} {on : ByteArray} {b b2 gD cD nd BD kd : Nat} {ods : List Dvs} {vR vC vS vK : Value} {ors : List Rnk} {dv : Dvs} {ocs : List Cpl} {rst : List Nat} {cp of : Nat} {kys : List Nat} {rank num : Int}
    (hG : ∀ c, G c → (F c ∨ w0.heap.size ≤ c) ∧ c < w.heap.size ∧ c ≠ gD ∧ c ≠ b ∧ c ≠ b2)
    (hR : Sl G 6 (RnkC G) w vR ors) (hC : Sl G 5 (CpC G) w vC ocs) (hS : Sl G 1 (U64R G) w vS rst) (hK : Sl G 2 (NtR G) w vK kys)
    (hV : CopyF BD 80 5 DvsC G w1 (.slice (some ⟨gD, 0, none⟩) nd cD) (ods.set kd dv)) (h1 : w0.heap.size ≤ BD) (h2 : b < BD) (h3 : b2 < BD) (hBD : BD ≤ w.heap.size)
    (a1 : ∀ c, c ≠ gD → w1.heap[c]? = w.heap[c]?) (z1 : w1.heap.size = w.heap.size) (a3 : ∀ c, c ≠ b → c ≠ b2 → w3.heap[c]? = w1.heap[c]?) (z3 : w3.heap.size = w1.heap.size) :
    SndC (fun c => F c ∨ (w0.heap.size ≤ c ∧ c < w3.heap.size)) w3 [.string on, vR, .slice (some ⟨gD, 0, none⟩) nd cD, vC, vS, .int .u64 (cp : Int), .int .u64 (of : Int), vK, .int .i64 rank, .int .i64 num] ⟨⟨on, ors, ods.set kd dv, ocs⟩, ⟨rst, cp, of⟩, kys, rank, num⟩ := by
  have hA : Agree G w w3 := fun c hc => by
    obtain ⟨-, -, q1, q2, q3⟩ := hG c hc
    rw [a3 c q2 q3, a1 c q1]
  have hM : ∀ c, G c → F c ∨ (w0.heap.size ≤ c ∧ c < w3.heap.size) := fun c hc => by
    obtain ⟨q, q1, -⟩ := hG c hc
    rcases q with q | q
    · exact .inl q
    · exact .inr ⟨q, by omega⟩
  have hv := CopyF.sl relDvs hV (by omega)
  have hv2 : Sl (fun c => F c ∨ (w0.heap.size ≤ c ∧ c < w3.heap.size)) 5 (DvsC fun c => F c ∨ (w0.heap.size ≤ c ∧ c < w3.heap.size)) w3 (.slice (some ⟨gD, 0, none⟩) nd cD) (ods.set kd dv) := by
    refine Sl.monoF relDvs (Sl.keepF relDvs hv fun c hc => ?_) fun c hc => ?_
    · rcases hc with hc | ⟨q1, -⟩
      · exact a3 c (hG c hc).2.2.2.1 (hG c hc).2.2.2.2
      · exact a3 c (by omega) (by omega)
    · rcases hc with hc | ⟨q1, q2⟩
      · exact hM c hc
      · exact .inr ⟨by omega, by omega⟩
  exact ⟨vR, _, vC, vS, vK, rfl, Sl.monoF relRnk (Sl.keepF relRnk hR hA) hM, hv2, Sl.monoF relCpl (Sl.keepF relCpl hC hA) hM, Sl.monoF relU64 (Sl.keepF relU64 hS hA) hM, Sl.monoF relNt (Sl.keepF relNt hK hA) hM⟩
/-- A copied row where all blocks of its type are kept. -/
theorem CopyF.keepB {α : Type} {base : Nat} {e : TypeId} {k : Nat} {R : (Nat → Prop) → World → List Value → α → Prop} {G : Nat → Prop} {w w' : World} {v : Value} {l : List α} (hR : RelF R) (h : CopyF base e k R G w v l)
    (hk : ∀ g cs, Blk w g e cs → v.ownBlock = some g → Blk w' g e cs) (hA : Agree G w w') : CopyF base e k R G w' v l := by
  obtain ⟨hG, A, c, cs, rfl, e2, e3, e4, e5, e6⟩ := h
  refine ⟨hG, A, c, cs, rfl, e2, e3, e4, fun i hi => ?_, ?_⟩
  · obtain ⟨x, q1, q2, q3⟩ := e5 i hi
    exact ⟨x, q1, q2, hR.keep q3 hA⟩
  · rcases e6 with h | ⟨h0, hl, h1⟩
    · exact .inl h
    · rcases h1 with h1 | ⟨g, cap, cur, h, hbg, hh, hnc, hcm, hsz, htk⟩
      · exact .inr ⟨h0, hl, .inl h1⟩
      · exact .inr ⟨h0, hl, .inr ⟨g, cap, cur, h, hbg, hk g cur hh (by rw [h]; rfl), hnc, hcm, hsz, htk⟩⟩
/-- The state of spoiled ahead of its switch and in its arms. -/
structure SpB (F : Nat → Prop) (w0 : World) (on : ByteArray) (b ob db b2 gD cD nd BR BD BC BS BK : Nat) (ods : List Dvs) (vR vC xC vS vK vt u1 u2 u3 : Value) (ors : List Rnk) (dv : Dvs) (ocs : List Cpl) (rst : List Nat) (cp of : Nat) (kys : List Nat) (rank num : Int) (w : World) : Prop where
  hF : ∀ c, F c → c < w0.heap.size
  ord : w0.heap.size ≤ b ∧ b < b2 ∧ b2 < ob ∧ ob < BR ∧ BR ≤ BD ∧ BR ≤ BC ∧ BR ≤ BS ∧ BR ≤ BK ∧ BR ≤ gD ∧ gD < db
  bw : Below w0.heap.size w0 w
  hg : ∃ cur, Blk w gD 80 cur
  hO : Blk w ob 40 #[.string on, vR, .slice (some ⟨gD, 0, none⟩) nd cD, xC]
  hB : Blk w b 50 #[.string on, u1, u2, u3, vS, .int .u64 (cp : Int), .int .u64 (of : Int), vK, .int .i64 rank, .int .i64 num]
  hD : Blk w db 80 #[.string dv.name, .bool dv.ped, .int .i64 dv.lo, .int .i64 dv.hi, vt]
  hZ : Blk w b2 50 snd0
  hR : CopyF BR 84 6 RnkC F w vR ors
  hC : CopyF BC 94 5 CpC F w vC ocs
  hS : CopyF BS 42 1 U64R F w vS rst
  hK : CopyF BK 97 2 NtR F w vK kys
  hT : Sl F 4 (StpC F) w vt dv.stops
  hV : CopyF BD 80 5 DvsC F w (.slice (some ⟨gD, 0, none⟩) nd cD) ods
section
variable {F : Nat → Prop} {w0 w w' : World} {on : ByteArray} {b ob db b2 gD cD nd BR BD BC BS BK : Nat} {ods : List Dvs} {vR vC xC vS vK vt u1 u2 u3 : Value} {ors : List Rnk} {dv : Dvs} {ocs : List Cpl} {rst : List Nat} {cp of : Nat} {kys : List Nat} {rank num : Int}
theorem SpB.gNe (h : SpB F w0 on b ob db b2 gD cD nd BR BD BC BS BK ods vR vC xC vS vK vt u1 u2 u3 ors dv ocs rst cp of kys rank num w) {c : Nat} (hc : w0.heap.size ≤ c) : ∀ x, F x → x ≠ c := fun x hx e => by have := h.hF x hx; omega
theorem SpB.slK (h : SpB F w0 on b ob db b2 gD cD nd BR BD BC BS BK ods vR vC xC vS vK vt u1 u2 u3 ors dv ocs rst cp of kys rank num w) : Sl (SpG F BR gD w) 2 (NtR (SpG F BR gD w)) w vK kys := by
  obtain ⟨cur, hg⟩ := h.hg
  exact CopyF.slG relNt h.hK (by have := h.ord; omega) hg (by decide)
theorem SpB.toT0 (h : SpB F w0 on b ob db b2 gD cD nd BR BD BC BS BK ods vR vC vC vS vK vt u1 u2 u3 ors dv ocs rst cp of kys rank num w) (n1 : ∀ x ∈ kys, x < 2 ^ 128) (n2 : ∀ x ∈ rst, x < 2 ^ 64) (n3 : cp < 2 ^ 64) (n4 : of < 2 ^ 64) : SpT F w0 on b ob db b2 gD cD nd BD ods w := by
  have ho := h.ord
  have hk := h.slK
  obtain ⟨cur, hg⟩ := h.hg
  exact SpT.of h.hF (by omega) (by omega) (by omega) (by omega) (by omega) (by omega) (show BR ≤ BS by omega) h.bw hg (by omega) h.hO h.hB h.hD h.hZ h.hR h.hC h.hS hk (Sl.monoF relStp h.hT fun _ q => .inl q) h.hV n1 n2 n3 n4
/-- Below the new. -/
theorem SpB.below (h : SpB F w0 on b ob db b2 gD cD nd BR BD BC BS BK ods vR vC xC vS vK vt u1 u2 u3 ors dv ocs rst cp of kys rank num w) (hb : Below w.heap.size w w') : SpB F w0 on b ob db b2 gD cD nd BR BD BC BS BK ods vR vC xC vS vK vt u1 u2 u3 ors dv ocs rst cp of kys rank num w' := by
  have hFw : ∀ c, F c → c < w.heap.size := fun c hc => Nat.lt_of_lt_of_le (h.hF c hc) h.bw.size
  obtain ⟨cur, hg⟩ := h.hg
  exact ⟨h.hF, h.ord, Bt h.bw hb, ⟨cur, hg.below hb hg.lt⟩, h.hO.below hb h.hO.lt, h.hB.below hb h.hB.lt, h.hD.below hb h.hD.lt, h.hZ.below hb h.hZ.lt, h.hR.below relRnk hFw hb, h.hC.below relCpl hFw hb, h.hS.below relU64 hFw hb, h.hK.below relNt hFw hb, Sl.keepF relStp h.hT (Agree.below hb hFw), h.hV.below relDvs hFw hb⟩
/-- A row of ranks, of couplers, of words, of keys changed: the blocks of other types are kept. -/
theorem SpB.newR {vR' : Value} {ors' : List Rnk} (h : SpB F w0 on b ob db b2 gD cD nd BR BD BC BS BK ods vR vC xC vS vK vt u1 u2 u3 ors dv ocs rst cp of kys rank num w) (hk : ∀ g T cs, Blk w g T cs → T ≠ 84 → Blk w' g T cs) (hA : Agree F w w') (hbw : Below w0.heap.size w0 w') (hn : CopyF BR 84 6 RnkC F w' vR ors') :
    SpB F w0 on b ob db b2 gD cD nd BR BD BC BS BK ods vR vC xC vS vK vt u1 u2 u3 ors' dv ocs rst cp of kys rank num w' := by
  obtain ⟨cur, hg⟩ := h.hg
  exact ⟨h.hF, h.ord, hbw, ⟨cur, hk _ _ _ hg (by decide)⟩, hk _ _ _ h.hO (by decide), hk _ _ _ h.hB (by decide), hk _ _ _ h.hD (by decide), hk _ _ _ h.hZ (by decide), hn, h.hC.keepB relCpl (fun g cs q _ => hk g _ cs q (by decide)) hA, h.hS.keepB relU64 (fun g cs q _ => hk g _ cs q (by decide)) hA, h.hK.keepB relNt (fun g cs q _ => hk g _ cs q (by decide)) hA, Sl.keepF relStp h.hT hA, h.hV.keepB relDvs (fun g cs q _ => hk g _ cs q (by decide)) hA⟩
theorem SpB.newC {vC' : Value} {ocs' : List Cpl} (h : SpB F w0 on b ob db b2 gD cD nd BR BD BC BS BK ods vR vC xC vS vK vt u1 u2 u3 ors dv ocs rst cp of kys rank num w) (hk : ∀ g T cs, Blk w g T cs → T ≠ 94 → Blk w' g T cs) (hA : Agree F w w') (hbw : Below w0.heap.size w0 w') (hn : CopyF BC 94 5 CpC F w' vC' ocs') :
    SpB F w0 on b ob db b2 gD cD nd BR BD BC BS BK ods vR vC' xC vS vK vt u1 u2 u3 ors dv ocs' rst cp of kys rank num w' := by
  obtain ⟨cur, hg⟩ := h.hg
  exact ⟨h.hF, h.ord, hbw, ⟨cur, hk _ _ _ hg (by decide)⟩, hk _ _ _ h.hO (by decide), hk _ _ _ h.hB (by decide), hk _ _ _ h.hD (by decide), hk _ _ _ h.hZ (by decide), h.hR.keepB relRnk (fun g cs q _ => hk g _ cs q (by decide)) hA, hn, h.hS.keepB relU64 (fun g cs q _ => hk g _ cs q (by decide)) hA, h.hK.keepB relNt (fun g cs q _ => hk g _ cs q (by decide)) hA, Sl.keepF relStp h.hT hA, h.hV.keepB relDvs (fun g cs q _ => hk g _ cs q (by decide)) hA⟩
theorem SpB.newS {rst' : List Nat} (h : SpB F w0 on b ob db b2 gD cD nd BR BD BC BS BK ods vR vC xC vS vK vt u1 u2 u3 ors dv ocs rst cp of kys rank num w) (hk : ∀ g T cs, Blk w g T cs → T ≠ 42 → Blk w' g T cs) (hA : Agree F w w') (hbw : Below w0.heap.size w0 w') (hn : CopyF BS 42 1 U64R F w' vS rst') :
    SpB F w0 on b ob db b2 gD cD nd BR BD BC BS BK ods vR vC xC vS vK vt u1 u2 u3 ors dv ocs rst' cp of kys rank num w' := by
  obtain ⟨cur, hg⟩ := h.hg
  exact ⟨h.hF, h.ord, hbw, ⟨cur, hk _ _ _ hg (by decide)⟩, hk _ _ _ h.hO (by decide), hk _ _ _ h.hB (by decide), hk _ _ _ h.hD (by decide), hk _ _ _ h.hZ (by decide), h.hR.keepB relRnk (fun g cs q _ => hk g _ cs q (by decide)) hA, h.hC.keepB relCpl (fun g cs q _ => hk g _ cs q (by decide)) hA, hn, h.hK.keepB relNt (fun g cs q _ => hk g _ cs q (by decide)) hA, Sl.keepF relStp h.hT hA, h.hV.keepB relDvs (fun g cs q _ => hk g _ cs q (by decide)) hA⟩
theorem SpB.newK {kys' : List Nat} (h : SpB F w0 on b ob db b2 gD cD nd BR BD BC BS BK ods vR vC xC vS vK vt u1 u2 u3 ors dv ocs rst cp of kys rank num w) (hk : ∀ g T cs, Blk w g T cs → T ≠ 97 → Blk w' g T cs) (hA : Agree F w w') (hbw : Below w0.heap.size w0 w') (hn : CopyF BK 97 2 NtR F w' vK kys') :
    SpB F w0 on b ob db b2 gD cD nd BR BD BC BS BK ods vR vC xC vS vK vt u1 u2 u3 ors dv ocs rst cp of kys' rank num w' := by
  obtain ⟨cur, hg⟩ := h.hg
  exact ⟨h.hF, h.ord, hbw, ⟨cur, hk _ _ _ hg (by decide)⟩, hk _ _ _ h.hO (by decide), hk _ _ _ h.hB (by decide), hk _ _ _ h.hD (by decide), hk _ _ _ h.hZ (by decide), h.hR.keepB relRnk (fun g cs q _ => hk g _ cs q (by decide)) hA, h.hC.keepB relCpl (fun g cs q _ => hk g _ cs q (by decide)) hA, h.hS.keepB relU64 (fun g cs q _ => hk g _ cs q (by decide)) hA, hn, Sl.keepF relStp h.hT hA, h.hV.keepB relDvs (fun g cs q _ => hk g _ cs q (by decide)) hA⟩
/-- A store into a block of its own type: all other types' blocks are kept. -/
theorem Blk.others {W : World} {g : Nat} {t : TypeId} {cur : Array Value} (hk : Blk W g t cur) (q : Nat) (u : Value) : ∀ g' T cs, Blk W g' T cs → T ≠ t → Blk (W.setCell ⟨g, q, none⟩ u) g' T cs := fun g' _ _ h hT => h.far (fun e => by subst e; exact h.ne_ hk hT rfl) u
/-- A rank's first note stored. -/
theorem SpB.rank1 (h : SpB F w0 on b ob db b2 gD cD nd BR BD BC BS BK ods vR vC xC vS vK vt u1 u2 u3 ors dv ocs rst cp of kys rank num w) (i : Nat) (hi : i < ors.length) (by_ : Int) :
    ∃ g c x, vR = .slice (some ⟨g, 0, none⟩) ors.length c ∧ w.cell? ⟨g, i * 6 + 4, none⟩ = some x ∧ w.frozen? ⟨g, i * 6 + 4, none⟩ = false ∧ ∃ ors', SpB F w0 on b ob db b2 gD cD nd BR BD BC BS BK ods vR vC xC vS vK vt u1 u2 u3 ors' dv ocs rst cp of kys rank num (w.setCell ⟨g, i * 6 + 4, none⟩ (.int .i64 by_)) := by
  obtain ⟨g, c, cur, x, rfl, hg, hk, hxl, ⟨v, rfl, hv⟩, hc, hset⟩ := CopyF.store relRnk h.hR i hi
  have hgw : w0.heap.size ≤ g := by have := h.ord; omega
  refine ⟨g, c, _, rfl, hc 4 _ rfl, hk.frozen _, _, h.newR (vR' := .slice (some ⟨g, 0, none⟩) ors.length c) (hk.others _ _) (Agree.setCell _ (h.gNe hgw)) (Bs h.bw _ hgw) (hset 4 (.int .i64 by_) ⟨ors[i].name, ors[i].tone, ors[i].num, ors[i].den, by_, ors[i].wind⟩ (by decide) ⟨v, rfl, SlI.keep hv (Agree.setCell _ (h.gNe hgw))⟩)⟩
/-- A word of the stops stored, the lower word of keys. -/
theorem SpB.stop (h : SpB F w0 on b ob db b2 gD cD nd BR BD BC BS BK ods vR vC xC vS vK vt u1 u2 u3 ors dv ocs rst cp of kys rank num w) (i : Nat) (hi : i < rst.length) :
    ∃ g c, vS = .slice (some ⟨g, 0, none⟩) rst.length c ∧ w.cell? ⟨g, i, none⟩ = some (.int .u64 (rst[i] : Int)) ∧ w.frozen? ⟨g, i, none⟩ = false ∧ ∀ n : Nat, SpB F w0 on b ob db b2 gD cD nd BR BD BC BS BK ods vR vC xC vS vK vt u1 u2 u3 ors dv ocs (rst.set i n) cp of kys rank num (w.setCell ⟨g, i, none⟩ (.int .u64 (n : Int))) := by
  obtain ⟨g, c, cur, x, rfl, hg, hk, hxl, hx, hc, hset⟩ := CopyF.store relU64 h.hS i hi
  obtain rfl : x = _ := hx
  have hgw : w0.heap.size ≤ g := by have := h.ord; omega
  have e : i * 1 + 0 = i := by omega
  have c0 := hc 0 _ rfl
  rw [e] at c0
  refine ⟨g, c, rfl, c0, hk.frozen _, fun n => h.newS (hk.others _ _) (Agree.setCell _ (h.gNe hgw)) (Bs h.bw _ hgw) ?_⟩
  have h1 := hset 0 (.int .u64 (n : Int)) n (by decide) rfl
  rw [e] at h1
  exact h1
theorem SpB.key (h : SpB F w0 on b ob db b2 gD cD nd BR BD BC BS BK ods vR vC xC vS vK vt u1 u2 u3 ors dv ocs rst cp of kys rank num w) (i : Nat) (hi : i < kys.length) :
    ∃ g c, vK = .slice (some ⟨g, 0, none⟩) kys.length c ∧ w.cell? ⟨g, i * 2, none⟩ = some (.int .u64 ((Nt.lo kys[i] : Nat) : Int)) ∧ w.frozen? ⟨g, i * 2, none⟩ = false ∧ ∀ n : Nat, Nt.hi n = Nt.hi kys[i] → SpB F w0 on b ob db b2 gD cD nd BR BD BC BS BK ods vR vC xC vS vK vt u1 u2 u3 ors dv ocs rst cp of (kys.set i n) rank num (w.setCell ⟨g, i * 2, none⟩ (.int .u64 ((Nt.lo n : Nat) : Int))) := by
  obtain ⟨g, c, cur, x, rfl, hg, hk, hxl, hx, hc, hset⟩ := CopyF.store relNt h.hK i hi
  obtain rfl : x = _ := hx
  have hgw : w0.heap.size ≤ g := by have := h.ord; omega
  have c0 := hc 0 _ rfl
  rw [Nat.add_zero] at c0
  refine ⟨g, c, rfl, c0, hk.frozen _, fun n hn => h.newK (hk.others _ _) (Agree.setCell _ (h.gNe hgw)) (Bs h.bw _ hgw) ?_⟩
  have h1 := hset 0 (.int .u64 ((Nt.lo n : Nat) : Int)) n (by decide) (by show [_, _] = [_, _]; rw [hn])
  rw [Nat.add_zero] at h1
  exact h1
/-- A store into o's box, into s's box, into d's box. -/
theorem SpB.putO (h : SpB F w0 on b ob db b2 gD cD nd BR BD BC BS BK ods vR vC xC vS vK vt u1 u2 u3 ors dv ocs rst cp of kys rank num w) (x : Value) : SpB F w0 on b ob db b2 gD cD nd BR BD BC BS BK ods vR vC x vS vK vt u1 u2 u3 ors dv ocs rst cp of kys rank num (w.setCell ⟨ob, 3, none⟩ x) := by
  have ho := h.ord
  obtain ⟨cur, hg⟩ := h.hg
  have hk := h.hO.others 3 x
  have hA : Agree F w (w.setCell ⟨ob, 3, none⟩ x) := Agree.setCell _ (h.gNe (c := ob) (by omega))
  exact ⟨h.hF, h.ord, Bs h.bw _ (by show w0.heap.size ≤ ob; omega), ⟨cur, hk _ _ _ hg (by decide)⟩, by have := h.hO.set_ 3 x; simpa using this, hk _ _ _ h.hB (by decide), hk _ _ _ h.hD (by decide), hk _ _ _ h.hZ (by decide), h.hR.keepB relRnk (fun g cs q _ => hk g _ cs q (by decide)) hA, h.hC.keepB relCpl (fun g cs q _ => hk g _ cs q (by decide)) hA, h.hS.keepB relU64 (fun g cs q _ => hk g _ cs q (by decide)) hA, h.hK.keepB relNt (fun g cs q _ => hk g _ cs q (by decide)) hA, Sl.keepF relStp h.hT hA, h.hV.keepB relDvs (fun g cs q _ => hk g _ cs q (by decide)) hA⟩
theorem SpB.setB (h : SpB F w0 on b ob db b2 gD cD nd BR BD BC BS BK ods vR vC xC vS vK vt u1 u2 u3 ors dv ocs rst cp of kys rank num w) (j : Nat) (x : Value) {cp' of' : Nat} {rank' num' : Int} {vK' : Value}
    (hq : (#[.string on, u1, u2, u3, vS, .int .u64 (cp : Int), .int .u64 (of : Int), vK, .int .i64 rank, .int .i64 num] : Array Value).setIfInBounds j x = #[.string on, u1, u2, u3, vS, .int .u64 (cp' : Int), .int .u64 (of' : Int), vK', .int .i64 rank', .int .i64 num']) (hk' : vK' = vK) :
    SpB F w0 on b ob db b2 gD cD nd BR BD BC BS BK ods vR vC xC vS vK vt u1 u2 u3 ors dv ocs rst cp' of' kys rank' num' (w.setCell ⟨b, j, none⟩ x) := by
  subst hk'
  have ho := h.ord
  obtain ⟨cur, hg⟩ := h.hg
  have hk := h.hB.others j x
  have hA : Agree F w (w.setCell ⟨b, j, none⟩ x) := Agree.setCell _ (h.gNe (c := b) (by omega))
  have hB := h.hB.set_ j x
  rw [hq] at hB
  exact ⟨h.hF, h.ord, Bs h.bw _ (by show w0.heap.size ≤ b; omega), ⟨cur, hk _ _ _ hg (by decide)⟩, hk _ _ _ h.hO (by decide), hB, hk _ _ _ h.hD (by decide), h.hZ.far (by show b2 ≠ b; omega) _, h.hR.keepB relRnk (fun g cs q _ => hk g _ cs q (by decide)) hA, h.hC.keepB relCpl (fun g cs q _ => hk g _ cs q (by decide)) hA, h.hS.keepB relU64 (fun g cs q _ => hk g _ cs q (by decide)) hA, h.hK.keepB relNt (fun g cs q _ => hk g _ cs q (by decide)) hA, Sl.keepF relStp h.hT hA, h.hV.keepB relDvs (fun g cs q _ => hk g _ cs q (by decide)) hA⟩
theorem SpB.setD (h : SpB F w0 on b ob db b2 gD cD nd BR BD BC BS BK ods vR vC xC vS vK vt u1 u2 u3 ors dv ocs rst cp of kys rank num w) (j : Nat) (x : Value) {dv' : Dvs}
    (hq : (#[.string dv.name, .bool dv.ped, .int .i64 dv.lo, .int .i64 dv.hi, vt] : Array Value).setIfInBounds j x = #[.string dv'.name, .bool dv'.ped, .int .i64 dv'.lo, .int .i64 dv'.hi, vt]) (hs : dv'.stops = dv.stops) :
    SpB F w0 on b ob db b2 gD cD nd BR BD BC BS BK ods vR vC xC vS vK vt u1 u2 u3 ors dv' ocs rst cp of kys rank num (w.setCell ⟨db, j, none⟩ x) := by
  have ho := h.ord
  obtain ⟨cur, hg⟩ := h.hg
  have hk := h.hD.others j x
  have hA : Agree F w (w.setCell ⟨db, j, none⟩ x) := Agree.setCell _ (h.gNe (c := db) (by omega))
  have hD := h.hD.set_ j x
  rw [hq] at hD
  exact ⟨h.hF, h.ord, Bs h.bw _ (by show w0.heap.size ≤ db; omega), ⟨cur, hg.far (by show gD ≠ db; omega) _⟩, hk _ _ _ h.hO (by decide), hk _ _ _ h.hB (by decide), hD, hk _ _ _ h.hZ (by decide), h.hR.keepB relRnk (fun g cs q _ => hk g _ cs q (by decide)) hA, h.hC.keepB relCpl (fun g cs q _ => hk g _ cs q (by decide)) hA, h.hS.keepB relU64 (fun g cs q _ => hk g _ cs q (by decide)) hA, h.hK.keepB relNt (fun g cs q _ => hk g _ cs q (by decide)) hA, by rw [hs]; exact Sl.keepF relStp h.hT hA, h.hV.keepB relDvs (fun g cs q e => q.far (by
    have e' : gD = g := by simpa [Value.ownBlock] using e
    show g ≠ db; omega) _) hA⟩
theorem Sl.tailK {α : Type} {G : Nat → Prop} {k : Nat} {R : World → List Value → α → Prop} {W : World} {A : Option Addr} {n c : Nat} {l : List α} (h : Sl G k R W (.slice A n c) l) (h0 : 0 < n) : Sl G k R W (.slice (if c = 1 then A else A.map fun a => a.add k) (n - 1) (c - 1)) (l.drop 1) := by
  obtain ⟨A', c', e, h1, h2, h3⟩ := h
  injection e with e1 e2 e3
  subst e1 e3
  have hl : (l.drop 1).length = n - 1 := by rw [List.length_drop, e2]
  refine ⟨_, c - 1, by rw [hl], by omega, by omega, fun i hi => ?_⟩
  obtain ⟨ad, cs, rfl, q1, q2, q3, q4⟩ := h3 (i + 1) (by omega)
  have hc1 : ¬ c = 1 := by omega
  rw [if_neg hc1]
  refine ⟨ad.add k, cs, rfl, by rw [block_of_add]; exact q1, q2, by rw [List.getElem_drop]; simpa [Nat.add_comm] using q3, ?_⟩
  rw [add_of_add, show k + i * k = (i + 1) * k by rw [Nat.add_mul]; omega]
  exact q4
/-- Keys behind the first stored. -/
theorem SpB.setK (h : SpB F w0 on b ob db b2 gD cD nd BR BD BC BS BK ods vR vC vC vS vK vt u1 u2 u3 ors dv ocs rst cp of kys rank num w) (x : Value) {kys' : List Nat} (hx : Sl (SpG F BR gD w) 2 (NtR (SpG F BR gD w)) w x kys')
    (n1 : ∀ x ∈ kys', x < 2 ^ 128) (n2 : ∀ x ∈ rst, x < 2 ^ 64) (n3 : cp < 2 ^ 64) (n4 : of < 2 ^ 64) : SpT F w0 on b ob db b2 gD cD nd BD ods (w.setCell ⟨b, 7, none⟩ x) := by
  have ho := h.ord
  obtain ⟨cur, hg⟩ := h.hg
  have hk := h.hB.others 7 x
  have hA : Agree F w (w.setCell ⟨b, 7, none⟩ x) := Agree.setCell _ (h.gNe (c := b) (by omega))
  have hB := h.hB.set_ 7 x
  have hz : (w.setCell ⟨b, 7, none⟩ x).heap.size = w.heap.size := by simp [World.setCell]
  have hAG : Agree (SpG F BR gD w) w (w.setCell ⟨b, 7, none⟩ x) := Agree.setCell _ fun c hc e => by
    have e : c = b := e
    rcases hc with hc | ⟨q, -⟩
    · exact h.gNe (c := b) (by omega) _ hc e
    · omega
  have hT : Sl (SpG F BR gD w) 4 (StpC (SpG F BR gD w)) (w.setCell ⟨b, 7, none⟩ x) vt dv.stops := Sl.keepF relStp (Sl.monoF relStp h.hT fun _ q => .inl q) hAG
  have hX := Sl.keepF relNt hx hAG
  have hGe : SpG F BR gD w = SpG F BR gD (w.setCell ⟨b, 7, none⟩ x) := by unfold SpG; rw [hz]
  rw [hGe] at hT hX
  exact SpT.of (BC := BC) (BS := BS) (cp := cp) (of := of) (rank := rank) (num := num) (u1 := u1) (u2 := u2) (u3 := u3) (dv := dv) h.hF (by omega) (by omega) (by omega) (by omega) (by omega) (by omega) (by omega) (Bs h.bw _ (by show w0.heap.size ≤ b; omega)) (hk _ _ _ hg (by decide)) (by omega) (hk _ _ _ h.hO (by decide)) (by simpa using hB) (hk _ _ _ h.hD (by decide)) (h.hZ.far (by show b2 ≠ b; omega) _) (h.hR.keepB relRnk (fun g cs q _ => hk g _ cs q (by decide)) hA) (h.hC.keepB relCpl (fun g cs q _ => hk g _ cs q (by decide)) hA) (h.hS.keepB relU64 (fun g cs q _ => hk g _ cs q (by decide)) hA) hX hT (h.hV.keepB relDvs (fun g cs q _ => hk g _ cs q (by decide)) hA) n1 n2 n3 n4
/-- A further stop: new rows, stored into d's box. -/
theorem SpB.setT (h : SpB F w0 on b ob db b2 gD cD nd BR BD BC BS BK ods vR vC vC vS vK vt u1 u2 u3 ors dv ocs rst cp of kys rank num w) {W : World} (hb : Below w.heap.size w W) (x : Value) {sts' : List Stp} (hx : Sl (fun c => F c ∨ (w.heap.size ≤ c ∧ c < W.heap.size)) 4 (StpC fun c => F c ∨ (w.heap.size ≤ c ∧ c < W.heap.size)) W x sts')
    (n1 : ∀ x ∈ kys, x < 2 ^ 128) (n2 : ∀ x ∈ rst, x < 2 ^ 64) (n3 : cp < 2 ^ 64) (n4 : of < 2 ^ 64) : SpT F w0 on b ob db b2 gD cD nd BD ods (W.setCell ⟨db, 4, none⟩ x) := by
  have ho := h.ord
  have hdw := h.hD.lt
  replace h := h.below hb
  have hsz := hb.size
  obtain ⟨cur, hg⟩ := h.hg
  have hk := h.hD.others 4 x
  have hA : Agree F W (W.setCell ⟨db, 4, none⟩ x) := Agree.setCell _ (h.gNe (c := db) (by omega))
  have hD := h.hD.set_ 4 x
  have hz : (W.setCell ⟨db, 4, none⟩ x).heap.size = W.heap.size := by simp [World.setCell]
  have hAG : Agree (fun c => F c ∨ (w.heap.size ≤ c ∧ c < W.heap.size)) W (W.setCell ⟨db, 4, none⟩ x) := Agree.setCell _ fun c hc e => by
    have e : c = db := e
    rcases hc with hc | ⟨q, -⟩
    · exact h.gNe (c := db) (by omega) _ hc e
    · omega
  have hGe : SpG F BR gD W = SpG F BR gD (W.setCell ⟨db, 4, none⟩ x) := by unfold SpG; rw [hz]
  have hT : Sl (SpG F BR gD W) 4 (StpC (SpG F BR gD W)) (W.setCell ⟨db, 4, none⟩ x) x sts' := Sl.monoF relStp (Sl.keepF relStp hx hAG) fun c hc => by
    rcases hc with hc | ⟨q1, q2⟩
    · exact .inl hc
    · exact .inr ⟨by omega, q2, by omega⟩
  have hX := CopyF.slG (g := gD) relNt (h.hK.keepB relNt (fun g cs q _ => hk g _ cs q (by decide)) hA) (B := BR) (by omega) (hg.far (p := ⟨db, 4, none⟩) (by show gD ≠ db; omega) x) (by decide)
  rw [hGe] at hT
  exact SpT.of (BC := BC) (BS := BS) (cp := cp) (of := of) (rank := rank) (num := num) (u1 := u1) (u2 := u2) (u3 := u3) (dv := ⟨dv.name, dv.ped, dv.lo, dv.hi, sts'⟩) h.hF (by omega) (by omega) (by omega) (by omega) (by omega) (by omega) (by omega) (Bs h.bw _ (by show w0.heap.size ≤ db; omega)) (hg.far (p := ⟨db, 4, none⟩) (by show gD ≠ db; omega) x) (by omega) (hk _ _ _ h.hO (by decide)) (hk _ _ _ h.hB (by decide)) (by simpa using hD) (hk _ _ _ h.hZ (by decide)) (h.hR.keepB relRnk (fun g cs q _ => hk g _ cs q (by decide)) hA) (h.hC.keepB relCpl (fun g cs q _ => hk g _ cs q (by decide)) hA) (h.hS.keepB relU64 (fun g cs q _ => hk g _ cs q (by decide)) hA) hX hT (h.hV.keepB relDvs (fun g cs q e => q.far (by
    have e' : gD = g := by simpa [Value.ownBlock] using e
    show g ≠ db; omega) _) hA) n1 n2 n3 n4
/-- The cells of a new block. -/
theorem flds_new (W : World) (T : TypeId) (cs : List Value) : Flds (W.alloc (.cells cs.toArray T)) ⟨W.heap.size, 0, none⟩ cs := fun j u hu => by
  rw [add_g, Nat.zero_add, (Blk.new W T cs.toArray).cell j, List.getElem?_toArray]
  exact hu
/-- A coupler appended. -/
theorem SpB.cpl1 (h : SpB F w0 on b ob db b2 gD cD nd BR BD BC BS BK ods vR vC xC vS vK vt u1 u2 u3 ors dv ocs rst cp of kys rank num w) {vC' : Value} {ocs' : List Cpl} (hc : CopyF BC 94 5 CpC F w' vC' ocs') (hB : ∀ B : World, B.heap.size ≤ BC → Below B.heap.size B w → Below B.heap.size B w') (hk : ∀ g T cs, Blk w g T cs → T ≠ 94 → Blk w' g T cs) (hA : Agree F w w') :
    SpB F w0 on b ob db b2 gD cD nd BR BD BC BS BK ods vR vC' xC vS vK vt u1 u2 u3 ors dv ocs' rst cp of kys rank num w' :=
  h.newC hk hA (hB w0 (by have := h.ord; omega) h.bw) hc
end
/-! A stop appended to a copy of the stops, in a drawn region. -/
/-- New blocks of other types than the stops'. -/
def NwS (lim : Nat) (w : World) : Nat → Prop := fun c => lim ≤ c ∧ ∃ T cs, Blk w c T cs ∧ T ≠ 92
theorem NwS.below {lim : Nat} {w w' : World} {c : Nat} (h : NwS lim w c) (hb : Below w.heap.size w w') : NwS lim w' c := by
  obtain ⟨h0, T, cs, hk, ht⟩ := h
  exact ⟨h0, T, cs, hk.below hb hk.lt, ht⟩
theorem NwS.lt {lim : Nat} {w : World} {c : Nat} (h : NwS lim w c) : c < w.heap.size := by
  obtain ⟨_, T, cs, hk, _⟩ := h
  exact hk.lt
def rw1 {α : Type} (R : (Nat → Prop) → World → List Value → α → Prop) (T : TypeId) (k lim : Nat) (w : World) (v : Value) (x : α) : Prop := ∃ g cs, v = .slice (some ⟨g, 0, none⟩) 1 1 ∧ lim ≤ g ∧ Blk w g T cs.toArray ∧ cs.length = k ∧ R (NwS lim w) w cs x
def ag1 {α : Type} (R : (Nat → Prop) → World → List Value → α → Prop) (k lim : Nat) (w : World) (v : Value) (x : α) : Prop := ∃ cs : List Value, v = .agg cs.toArray ∧ cs.length = k ∧ R (NwS lim w) w cs x
theorem rw1.below {α : Type} {R : (Nat → Prop) → World → List Value → α → Prop} {T : TypeId} {k lim : Nat} {w w' : World} {v : Value} {x : α} (hR : RelF R) (h : rw1 R T k lim w v x) (hb : Below w.heap.size w w') : rw1 R T k lim w' v x := by
  obtain ⟨g, cs, e, h0, hk, hl, hr⟩ := h
  exact ⟨g, cs, e, h0, hk.below hb hk.lt, hl, hR.mono (hR.keep hr (Agree.below hb fun _ q => q.lt)) fun _ q => q.below hb⟩
theorem ag1.below {α : Type} {R : (Nat → Prop) → World → List Value → α → Prop} {k lim : Nat} {w w' : World} {v : Value} {x : α} (hR : RelF R) (h : ag1 R k lim w v x) (hb : Below w.heap.size w w') : ag1 R k lim w' v x := by
  obtain ⟨cs, e, hl, hr⟩ := h
  exact ⟨cs, e, hl, hR.mono (hR.keep hr (Agree.below hb fun _ q => q.lt)) fun _ q => q.below hb⟩
/-- A literal of one element: its block. -/
theorem rw1.new {α : Type} {R : (Nat → Prop) → World → List Value → α → Prop} {T : TypeId} {k lim : Nat} {w : World} {cs : List Value} {x : α} (hR : RelF R) (hl : cs.length = k) (hr : R (NwS lim w) w cs x) (hs : lim ≤ w.heap.size) : rw1 R T k lim (w.alloc (.cells cs.toArray T)) (.slice (some ⟨w.heap.size, 0, none⟩) 1 1) x :=
  ⟨_, cs, rfl, hs, Blk.new _ _ _, hl, hR.mono (hR.keep hr (Agree.below (Ba (B0 w) _) fun _ q => q.lt)) fun _ q => q.below (Ba (B0 w) _)⟩
theorem rw1.sl {α : Type} {R : (Nat → Prop) → World → List Value → α → Prop} {T : TypeId} {k lim : Nat} {w : World} {v : Value} {x : α} (h : rw1 R T k lim w v x) (hT : T ≠ 92) : ∃ g : Nat, v = .slice (some ⟨g, 0, none⟩) 1 1 ∧ Sl (NwS lim w) k (R (NwS lim w)) w v [x] := by
  obtain ⟨g, cs, rfl, h0, hk, hl, hr⟩ := h
  exact ⟨g, rfl, Sl.one_ hk ⟨h0, T, _, hk, hT⟩ hl hr⟩
/-- The copy of the stops. -/
def stC (F : Nat → Prop) (lim : Nat) (w : World) (v : Value) (sts : List Stp) : Prop := lim ≤ w.heap.size ∧ (∀ c, F c → c < lim) ∧ CopyF lim 92 4 StpC F w v sts
theorem stC.below {F : Nat → Prop} {lim : Nat} {w w' : World} {v : Value} {sts : List Stp} (h : stC F lim w v sts) (hb : Below w.heap.size w w') : stC F lim w' v sts := by
  obtain ⟨h0, h1, h2⟩ := h
  exact ⟨Nat.le_trans h0 hb.size, h1, h2.below relStp (fun c hc => Nat.lt_of_lt_of_le (h1 c hc) h0) hb⟩
def stF (F : Nat → Prop) (lim : Nat) (w : World) (v : Value) (sts : List Stp) : Prop := Sl (fun c => F c ∨ (lim ≤ c ∧ c < w.heap.size)) 4 (StpC fun c => F c ∨ (lim ≤ c ∧ c < w.heap.size)) w v sts
theorem stF.below {F : Nat → Prop} {lim : Nat} {w w' : World} {v : Value} {sts : List Stp} (h : stF F lim w v sts) (hF : ∀ c, F c → c < w.heap.size) (hb : Below w.heap.size w w') : stF F lim w' v sts :=
  Sl.monoF relStp (Sl.keepF relStp h (Agree.below hb fun c hc => hc.elim (hF c) fun q => q.2)) fun _ hc => hc.imp id fun q => ⟨q.1, Nat.lt_of_lt_of_le q.2 hb.size⟩
theorem run_copyStp {F : Nat → Prop} {lim : Nat} {w : World} {v : Value} {sts : List Stp} (ty : TypeId) (A0 : Option Addr) (hF : ∀ c, F c → c < lim) (hlim : lim ≤ w.heap.size) (hl : Sl F 4 (StpC F) w v sts) (hm : sts.length ≤ 1000) :
    ∃ v' w', (Builtin.append_ #[78, 78] ty #[.slice A0 0 0, v]).run Tryz.prog w = .ok v' w' ∧ Below w.heap.size w w' ∧ stC F lim w' v' sts := by
  obtain ⟨A, c, rfl, hc, hl9, -⟩ := Sl.openF hl
  have hFw : ∀ c, F c → c < w.heap.size := fun c hc => Nat.lt_of_lt_of_le (hF c hc) hlim
  obtain ⟨cs, q1, q2, q3⟩ := Sl.cells hl hFw
  obtain ⟨A', c', w', hrun, hb, ho⟩ := run_copy elemSt (by decide) ty A0 w.heap.size A sts.length c cs.flatten q3 (fun u hu => by
    obtain ⟨y, hy, huy⟩ := List.mem_flatten.1 hu
    obtain ⟨i, hi, rfl⟩ := List.getElem_of_mem hy
    obtain ⟨z, z1, z2, z3⟩ := q2 i (by rw [← q1]; exact hi)
    rw [List.getElem?_eq_getElem hi] at z1
    injection z1 with z1
    exact StpC.one (z1 ▸ z3) u huy) (by omega) (by omega)
  have ho' := Own0.more ho hlim
  refine ⟨_, w', hrun, hb, Nat.le_trans hlim hb.size, hF, fun hpos c hc q => ?_, A', c', cs, rfl, ?_, hl9, q1, fun i hi => ?_, ho'⟩
  · rcases ho' with ⟨h0, -, -⟩ | ⟨-, ho2⟩
    · omega
    · have := (ho2.lt c q).1; have := hF c hc; omega
  · rcases ho' with ⟨h0, -, -⟩ | ⟨-, ho2⟩
    · omega
    · rcases ho2.2 with ⟨h, h0⟩ | ⟨g, cap, cur, h, -, -, h4, -⟩
      · injection h with _ _ h; omega
      · injection h with _ _ h; omega
  · obtain ⟨z, z1, z2, z3⟩ := q2 i hi
    exact ⟨z, z1, z2, relStp.keep z3 (Agree.below hb hFw)⟩
theorem run_appStp {F : Nat → Prop} {lim : Nat} {w : World} {v u : Value} {sts : List Stp} {y : Stp} (ty : TypeId) (h : stC F lim w v sts) (hu : rw1 StpC 92 4 lim w u y) (hm : sts.length ≤ 1000) :
    ∃ v' w', (Builtin.append_ #[78, 78] ty #[v, u]).run Tryz.prog w = .ok v' w' ∧ stF F lim w' v' (sts ++ [y]) ∧ (∀ B : World, B.heap.size ≤ lim → Below B.heap.size B w → Below B.heap.size B w') ∧ (∀ g T cs, Blk w g T cs → T ≠ 92 → Blk w' g T cs) ∧ w.heap.size ≤ w'.heap.size := by
  obtain ⟨hlim, hF, hG, A, c, cs, rfl, e2, e3, e4, e5, e6⟩ := h
  obtain ⟨gu, news, rfl, hgu, hku, hl, hy⟩ := hu
  have hf : Flds w ⟨gu, 0, none⟩ news := fun j x hx => by
    rw [add_g, Nat.zero_add, hku.cell j, List.getElem?_toArray]; exact hx
  obtain ⟨A', c', w', hrun, h2, h3⟩ := run_appK elemSt (by decide) ty e6 ⟨gu, 0, none⟩ 1 news hl hf (StpC.one hy) (by omega) (by omega) hlim
  have hlt : ∀ b, (Value.slice A sts.length c).ownBlock = some b → 0 < sts.length → lim ≤ b := fun b hb h0 => by
    rcases e6 with ⟨h, -, -⟩ | ⟨-, h⟩
    · omega
    · exact (h.lt b hb).1
  have hagF : Agree F w w' := by
    rcases h3 with ⟨-, h3⟩ | ⟨h0, h3⟩
    · exact Agree.below h3 fun b hb => Nat.lt_of_lt_of_le (hF b hb) hlim
    · exact Agree.grown h3 fun b hb => ⟨Nat.lt_of_lt_of_le (hF b hb) hlim, fun q => by have := hlt b q.symm h0; have := hF b hb; omega⟩
  have hagN : Agree (NwS lim w) w w' := by
    rcases h3 with ⟨-, h3⟩ | ⟨h0, h3⟩
    · exact Agree.below h3 fun b hb => hb.lt
    · refine Agree.grown h3 fun b hb => ⟨hb.lt, fun q => ?_⟩
      obtain ⟨-, T, ds, hk, ht⟩ := hb
      rcases e6 with ⟨h, -, -⟩ | ⟨-, h⟩
      · omega
      · exact own_blk_ne h hk (fun q' => ht q'.symm) q.symm
  have hsz : w.heap.size ≤ w'.heap.size := by
    rcases h3 with ⟨-, h3⟩ | ⟨h0, h3⟩
    · exact h3.size
    · exact h3.size
  refine ⟨_, w', hrun, ?_, fun B hB hw => ?_, fun g T ds hg hT => ?_, hsz⟩
  · have hel : ∀ i (hi : i < (sts ++ [y]).length), ∃ x, (cs ++ [news])[i]? = some x ∧ x.length = 4 ∧ StpC (fun c => F c ∨ (lim ≤ c ∧ c < w'.heap.size)) w' x (sts ++ [y])[i] := fun i hi => by
      rcases Nat.lt_or_ge i sts.length with hlt' | hge
      · obtain ⟨x', q1, q2, q3⟩ := e5 i hlt'
        exact ⟨x', by rw [List.getElem?_append_left (by omega)]; exact q1, q2, by rw [List.getElem_append_left hlt']; exact relStp.mono (relStp.keep q3 hagF) fun _ h => .inl h⟩
      · have hii : i = sts.length := by simp at hi; omega
        subst hii
        exact ⟨news, by rw [← e4, List.getElem?_concat_length], hl, by simpa using relStp.mono (relStp.keep hy hagN) fun c (h : NwS lim w c) => .inr ⟨h.1, Nat.lt_of_lt_of_le h.lt hsz⟩⟩
    have hlen : (sts ++ [y]).length = sts.length + 1 := by rw [List.length_append]; rfl
    rcases h2 with ⟨h, -, -⟩ | ⟨-, h2⟩
    · omega
    · exact Sl.of_own h2 hlen.symm (by rw [hlen]; omega) (cs := cs ++ [news]) (by rw [List.flatten_append]; simp) (by rw [List.length_append, hlen, e4]; rfl) hel (fun b h1 h2 _ => .inr ⟨h1, h2⟩)
  · rcases h3 with ⟨-, h3⟩ | ⟨h0, h3⟩
    · exact Bt hw h3
    · exact hw.grown h3 hw.size fun b q => Nat.le_trans hB (hlt b q h0)
  · rcases h3 with ⟨-, h3⟩ | ⟨h0, h3⟩
    · exact hg.below h3 hg.lt
    · refine hg.grown h3 fun q => ?_
      rcases e6 with ⟨h, -, -⟩ | ⟨-, h⟩
      · omega
      · exact own_blk_ne h hg (fun q' => hT q'.symm) q.symm
theorem NwS.typ {lim : Nat} {w w' : World} {c : Nat} (h : NwS lim w c) (hk : ∀ g T cs, Blk w g T cs → T ≠ 92 → Blk w' g T cs) : NwS lim w' c := by
  obtain ⟨h0, T, cs, hb, ht⟩ := h
  exact ⟨h0, T, cs, hk _ _ _ hb ht, ht⟩
theorem NwS.agree {lim : Nat} {w w' : World} (hk : ∀ g T cs, Blk w g T cs → T ≠ 92 → Blk w' g T cs) : Agree (NwS lim w) w w' := fun c hc => by
  obtain ⟨h0, T, cs, hb, ht⟩ := hc
  have h1 : w'.heap[c]? = some (.cells cs T (0, 0)) := hk _ _ _ hb ht
  have h2 : w.heap[c]? = some (.cells cs T (0, 0)) := hb
  rw [h1, h2]
theorem rw1.typ {α : Type} {R : (Nat → Prop) → World → List Value → α → Prop} {T : TypeId} {k lim : Nat} {w w' : World} {v : Value} {x : α} (hR : RelF R) (h : rw1 R T k lim w v x) (hT : T ≠ 92) (hk : ∀ g T cs, Blk w g T cs → T ≠ 92 → Blk w' g T cs) : rw1 R T k lim w' v x := by
  obtain ⟨g, cs, e, h0, hb, hl, hr⟩ := h
  exact ⟨g, cs, e, h0, hk _ _ _ hb hT, hl, hR.mono (hR.keep hr (NwS.agree hk)) fun _ q => q.typ hk⟩
theorem ag1.typ {α : Type} {R : (Nat → Prop) → World → List Value → α → Prop} {k lim : Nat} {w w' : World} {v : Value} {x : α} (hR : RelF R) (h : ag1 R k lim w v x) (hk : ∀ g T cs, Blk w g T cs → T ≠ 92 → Blk w' g T cs) : ag1 R k lim w' v x := by
  obtain ⟨cs, e, hl, hr⟩ := h
  exact ⟨cs, e, hl, hR.mono (hR.keep hr (NwS.agree hk)) fun _ q => q.typ hk⟩
theorem exec_app {P : Program} {o : Oper} {a : Act} {w w' : World} {t : TypeId} {s x : Operand} {v1 v2 v' : Value} (ho : o.op = .call { callee := .builtin .append, args := #[s, x], argTypes := #[t, t] }) (hs : a.eval s = v1) (hx : a.eval x = v2)
    (hrun : (Builtin.append_ #[t, t] o.type #[v1, v2]).run P w = .ok v' w') : (execOp a.eval o).run P w = .ok (.value v') w' := by
  unfold execOp
  simp only [ho, resolve, invoke, builtin, Sem.run_bind, Sem.run_pure, Result.andThen_ok, List.map_toArray, List.map_cons, List.map_nil, hs, hx, hrun]
def nilS (v : Value) : Prop := ∃ A0 : Option Addr, v = .slice A0 0 0
end Go.Proofs.YtnfpjcjlapljjaaGreatDoor
