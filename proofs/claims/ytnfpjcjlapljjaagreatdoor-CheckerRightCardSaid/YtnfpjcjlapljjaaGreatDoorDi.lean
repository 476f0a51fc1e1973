/- Plain: law 18's stops; slices of one element or two. -/
import Derived.Test.YtnfpjcjlapljjaaGreatDoorDe
namespace Go.Proofs.YtnfpjcjlapljjaaGreatDoor
open Go Go.RowKit Go.Shelf
namespace Pit
theorem up_bd (g : Nat) : ∀ (num den : Nat) (n : Int), n - 12 * g ≤ (up g num den n).2 ∧ (up g num den n).2 ≤ n := by
  induction g with
  | zero => intro num den n; show n - 12 * 0 ≤ n ∧ n ≤ n; omega
  | succ g ih =>
    intro num den n
    unfold up
    split
    · have := ih (num * 2) den (n - 12)
      omega
    · show n - _ ≤ n ∧ n ≤ n
      omega
theorem dn_bd (g : Nat) : ∀ (num den : Nat) (n : Int), n ≤ (dn g num den n).2 ∧ (dn g num den n).2 ≤ n + 12 * g := by
  induction g with
  | zero => intro num den n; show n ≤ n ∧ n ≤ n + 12 * 0; omega
  | succ g ih =>
    intro num den n
    unfold dn
    split
    · have := ih num (den * 2) (n + 12)
      omega
    · show n ≤ n ∧ n ≤ n + _
      omega
theorem fo_bd (g : Nat) : ∀ (p l : Nat) (n : Int), n ≤ fo g p l n ∧ fo g p l n ≤ n + g := by
  induction g with
  | zero => intro p l n; show n ≤ n ∧ n ≤ n + (0 : Nat); omega
  | succ g ih =>
    intro p l n
    unfold fo
    split
    · have := ih p (l * 4) (n + 1)
      omega
    · omega
/-- A shift is small. -/
theorem shF_bd (num den : Nat) : -384 ≤ shF num den ∧ shF num den ≤ 416 := by
  unfold shF
  have h1 := up_bd 32 num den 0
  have h2 := dn_bd 32 (up 32 num den 0).1 den (up 32 num den 0).2
  have h3 := fo_bd 32 ((up 32 num den 0).1 ^ 24) ((dn 32 (up 32 num den 0).1 den (up 32 num den 0).2).1 ^ 24 * 2) (dn 32 (up 32 num den 0).1 den (up 32 num den 0).2).2
  dsimp only
  omega
end Pit
namespace Org
/-- Law 18's description of a stop. -/
structure Pl where
  r : Nat
  f : Nat
  k : Nat
  a : Nat
def Pl.cs (x : Pl) : List Value := [.int .u8 (x.r : Int), .int .u8 (x.f : Int), .int .u8 (x.k : Int), .int .u8 (x.a : Int)]
structure Pl.Ok (x : Pl) : Prop where
  r : x.r < 256
  f : x.f < 256
  k : x.k < 256
  a : x.a < 256
/-- Ranks whose feet are right. -/
def FtR (rs : List Rnk) : Prop := ∀ r ∈ rs, ∃ n d : Nat, r.num = (n : Int) ∧ r.den = (d : Int) ∧ FtOk n d
def shR (rs : List Rnk) (f n : Nat) : Int := match rs[n]? with
  | some r => Pit.shF (r.num.toNat * (ft18 f).2) (r.den.toNat * (ft18 f).1)
  | none => 0
/-- The segments of a stop: keys from lo to lo + h. -/
def mkSegs (rs : List Rnk) (lo h : Nat) (x : Pl) : List Seg :=
  let n := x.r % rs.length
  let s := shR rs (x.f % 6) n
  let one := [(⟨(n : Int), s⟩ : Dr)]
  let t := lo + x.a % (h + 1)
  let two (l : List Dr) : List Seg := (if lo < t then [⟨(lo : Int), (t : Int) - 1, one⟩] else []) ++ [⟨(t : Int), ((lo + h : Nat) : Int), l⟩]
  if x.k % 6 = 2 then [⟨(lo : Int), ((lo + h : Nat) : Int), [⟨(n : Int), s⟩, ⟨(n : Int), s + 7⟩]⟩]
  else if x.k % 6 = 3 then two [⟨(((n + 1) % rs.length : Nat) : Int), shR rs (x.f % 6) ((n + 1) % rs.length)⟩]
  else if x.k % 6 = 4 then two [⟨(n : Int), s - 12⟩]
  else if x.k % 6 = 5 then [⟨(t : Int), ((lo + h : Nat) : Int), one⟩]
  else [⟨(lo : Int), ((lo + h : Nat) : Int), one⟩]
def mkStp (rs : List Rnk) (lo h : Nat) (x : Pl) (i : Nat) : Stp := ⟨⟨#[83]⟩ ++ digS i, ((ft18 (x.f % 6)).1 : Int), ((ft18 (x.f % 6)).2 : Int), mkSegs rs lo h x⟩
end Org
open Org
theorem add_g (g a j : Nat) : (⟨g, a, none⟩ : Addr).add j = ⟨g, a + j, none⟩ := by
  unfold Addr.add
  split
  · next h => subst h; rfl
  · rfl
/-- A slice of one element, of two, whose cells are a block. -/
theorem Sl.one_ {α : Type} {F : Nat → Prop} {k : Nat} {R : World → List Value → α → Prop} {W : World} {g : Nat} {t : TypeId} {cs : List Value} {x : α} (hk : Blk W g t cs.toArray) (hF : F g) (hl : cs.length = k) (hR : R W cs x) : Sl F k R W (.slice (some ⟨g, 0, none⟩) 1 1) [x] := by
  refine ⟨_, 1, rfl, by simp, by simp, fun i hi => ?_⟩
  obtain rfl : i = 0 := by simp at hi; omega
  refine ⟨_, cs, rfl, hF, hl, hR, fun j u hu => ?_⟩
  have h := hk.cell j
  rw [List.getElem?_toArray, hu] at h
  rw [add_g, add_g, Nat.zero_mul, Nat.zero_add]
  exact h
theorem Sl.two_ {α : Type} {F : Nat → Prop} {k : Nat} {R : World → List Value → α → Prop} {W : World} {g : Nat} {t : TypeId} {cs ds : List Value} {x y : α} (hk : Blk W g t (cs ++ ds).toArray) (hF : F g) (hl : cs.length = k) (hl2 : ds.length = k) (hR : R W cs x) (hR2 : R W ds y) : Sl F k R W (.slice (some ⟨g, 0, none⟩) 2 2) [x, y] := by
  refine ⟨_, 2, rfl, by simp, by simp, fun i hi => ?_⟩
  have hi2 : i = 0 ∨ i = 1 := by simp at hi; omega
  rcases hi2 with rfl | rfl
  · refine ⟨_, cs, rfl, hF, hl, hR, fun j u hu => ?_⟩
    have h := hk.cell j
    have hj : j < cs.length := (List.getElem?_eq_some_iff.1 hu).1
    rw [List.getElem?_toArray, List.getElem?_append_left hj, hu] at h
    rw [add_g, add_g, Nat.zero_mul, Nat.zero_add]
    exact h
  · refine ⟨_, ds, rfl, hF, hl2, hR2, fun j u hu => ?_⟩
    have h := hk.cell (k + j)
    rw [List.getElem?_toArray, List.getElem?_append_right (by omega), hl, Nat.add_sub_cancel_left, hu] at h
    rw [add_g, add_g, Nat.one_mul, Nat.zero_add]
    exact h
end Go.Proofs.YtnfpjcjlapljjaaGreatDoor
