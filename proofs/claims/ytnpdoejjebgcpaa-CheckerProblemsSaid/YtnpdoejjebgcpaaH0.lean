/- Walks over hitting: slices of words; the first index at which a closure holds. Walks over hitting: lists of the call's own, of one cell each. Walks over hitting: the error of a list; the bits of a list. -/
import Derived.Test.YtnpdoejjebgcpaaRows
import Derived.Test.YtnpdoejjebgcpaaBase
import Derived.Test.YtnpdoejjebgcpaaHit
import Derived.Test.YtnpdoejjebgcpaaCovP
import Derived.WalkKit
import Derived.WalkSpells
import Derived.WalkLawsBesides
import Derived.StillTactics
import Derived.LoopTactic
import Derived.Deep.LoopGhost
import Derived.Outline
import Derived.Handy
import Derived.Shelf.Abstract
import Derived.BigQuiet
namespace Go.Proofs.Ytnpdoejjebgcpaa
open Go Go.RowKit

/-- A cell that is an unsigned integer of kind k. -/
def UCell (k : IntKind) (_ : World) (cs : List Value) (x : Nat) : Prop := cs = [.int k (x : Int)]
abbrev SlU (k : IntKind) (F : Nat → Prop) (w : World) (v : Value) (l : List Nat) : Prop := Sl F 1 (UCell k) w v l
theorem SlU.open {k : IntKind} {F : Nat → Prop} {w : World} {v : Value} {l : List Nat} (h : SlU k F w v l) : ∃ A c, v = .slice A l.length c ∧ l.length ≤ c ∧ l.length ≤ 140737488355328 ∧
    ∀ i (hi : i < l.length), ∃ ad, A = some ad ∧ F ad.block ∧ w.cell? (ad.add i) = some (.int k ((l[i] : Nat) : Int)) := by
  obtain ⟨A, c, hv, hc, hl, hi⟩ := h
  refine ⟨A, c, hv, hc, hl, fun i hil => ?_⟩
  obtain ⟨ad, cs, hA, hF, hk, hr, hcell⟩ := hi i hil
  unfold UCell at hr
  subst hr
  exact ⟨ad, hA, hF, by simpa using hcell.f0 rfl⟩
theorem SlU.keep {k : IntKind} {F : Nat → Prop} {w w' : World} {v : Value} {l : List Nat} (h : SlU k F w v l) (ha : Agree F w w') : SlU k F w' v l := Sl.keep h ha fun _ _ hr => hr
/-- The sets of a problem. -/
def setsOf (ws : List Nat) : List (List Int) := ws.map fun s => Hit.ints (Hit.members s)
theorem ints_length (l : List Nat) : (Hit.ints l).length = l.length := by simp [Hit.ints]
theorem ints_get (l : List Nat) (i : Nat) (h : i < (Hit.ints l).length) : (Hit.ints l)[i] = ((l[i]'(by rw [← ints_length]; exact h) : Nat) : Int) := by simp [Hit.ints]
/-- A closure on words that answers by p, in every world in which all that lay in w lies. -/
def PredU (k : IntKind) (p : Nat → Bool) (g : Nat) (lb : Array Value) (w : World) (l : List Nat) : Prop :=
  ∀ (W : World) (x : Nat), x ∈ l → Below w.heap.size w W → Calls Try.prog g (#[.int k (x : Int)] ++ lb) W fun e w' => e = .returned (.bool (p x)) ∧ W = w'
end Go.Proofs.Ytnpdoejjebgcpaa
namespace Go.Proofs.Ytnpdoejjebgcpaa
open Go Go.RowKit
theorem Bg0 {a b c : World} {base : Nat} {e : TypeId} {k n cc : Nat} {A : Option Addr} {xs : List Value} (h : Below a.heap.size a b) (hown : Own0 b base e k A n cc xs) (hbase : a.heap.size ≤ base)
    (hg : (n = 0 ∧ Below b.heap.size b c) ∨ (0 < n ∧ b.grownBy c (Value.slice A n cc).ownBlock)) : Below a.heap.size a c := by
  rcases hg with ⟨_, hg⟩ | ⟨h0, hg⟩
  · exact Bt h hg
  · rcases hown with ⟨h1, _⟩ | ⟨_, hown⟩
    · omega
    · exact Bg h hown hbase hg
theorem Own0.nil {w : World} {base : Nat} {e : TypeId} {k : Nat} {A : Option Addr} : Own0 w base e k A 0 0 [] := .inl ⟨rfl, rfl, rfl⟩
/-- Cells of a list, a value each. -/
def cellsV {α : Type} (f : α → Value) (l : List α) : List Value := l.map f
theorem cellsV_flat {α : Type} (f : α → Value) (l : List α) : cellsV f l = (l.map fun x => [f x]).flatten := by
  induction l with
  | nil => rfl
  | cons x l ih => simp only [cellsV, List.map_cons, List.flatten_cons] at *; rw [ih]; rfl
theorem cellsV_snoc {α : Type} (f : α → Value) (l : List α) (x : α) : cellsV f (l ++ [x]) = cellsV f l ++ [f x] := by simp [cellsV]
/-- A row of the call's own, as a slice that reads as the list. -/
theorem Own0.sl {α : Type} {F : Nat → Prop} {f : α → Value} {R : World → List Value → α → Prop} {w : World} {base : Nat} {e : TypeId} {A : Option Addr} {n c : Nat} {l : List α} (h : Own0 w base e 1 A n c (cellsV f l)) (hn : n = l.length) (hl : l.length ≤ 1000000000) (hR : ∀ x ∈ l, R w [f x] x)
    (hF : ∀ b, base ≤ b → b < w.heap.size → F b) : Sl F 1 R w (.slice A n c) l := by
  subst hn
  rcases h with ⟨h0, hc, _⟩ | ⟨h0, h⟩
  · subst hc
    have hl0 : l = [] := List.eq_nil_of_length_eq_zero h0
    subst hl0
    exact ⟨A, 0, rfl, by simp, by simp, fun i hi => absurd hi (by simp)⟩
  · rw [cellsV_flat] at h
    exact Sl.of_own (cs := l.map fun x => [f x]) h rfl (by omega) rfl (by simp) (fun i hi => ⟨[f l[i]], by simp [hi], rfl, hR _ (List.getElem_mem hi)⟩) fun b q1 q2 _ => hF b q1 q2
def vI (x : Int) : Value := .int .i64 x
def vN (x : Nat) : Value := .int .i64 (x : Int)
def vU (k : IntKind) (x : Nat) : Value := .int k (x : Int)
theorem Own0.ints {F : Nat → Prop} {w : World} {base : Nat} {e : TypeId} {A : Option Addr} {n c : Nat} {l : List Nat} (h : Own0 w base e 1 A n c (cellsV vN l)) (hn : n = l.length) (hl : l.length ≤ 1000000000) (hF : ∀ b, base ≤ b → b < w.heap.size → F b) : SlI F w (.slice A n c) (Hit.ints l) := by
  have e : cellsV vI (Hit.ints l) = cellsV vN l := by simp [cellsV, Hit.ints, vI, vN]
  rw [← e] at h
  exact h.sl (by rw [ints_length]; exact hn) (by rw [ints_length]; exact hl) (fun x _ => rfl) hF
theorem Own0.words {k : IntKind} {F : Nat → Prop} {w : World} {base : Nat} {e : TypeId} {A : Option Addr} {n c : Nat} {l : List Nat} (h : Own0 w base e 1 A n c (cellsV (vU k) l)) (hn : n = l.length) (hl : l.length ≤ 1000000000) (hF : ∀ b, base ≤ b → b < w.heap.size → F b) : SlU k F w (.slice A n c) l :=
  h.sl hn hl (fun _ _ => rfl) hF
theorem infoI : (Try.prog.info? 3).map (fun i => (i.zero, i.size, i.bytes)) = some (some (.int .i64 0), 1, 8) := by kernel_rfl
theorem elemI : ElemN Try.prog 26 3 1 8 := ⟨Try.underlying26, by
  obtain ⟨i, hi, hz, hs, hb⟩ := info_parts infoI
  exact ⟨i, _, hi, hz, hs, hb, rfl⟩⟩
theorem infoU : (Try.prog.info? 113).map (fun i => (i.zero, i.size, i.bytes)) = some (some (.int .u32 0), 1, 4) := by kernel_rfl
theorem elemU : ElemN Try.prog 106 113 1 4 := ⟨Try.underlying106, by
  obtain ⟨i, hi, hz, hs, hb⟩ := info_parts infoU
  exact ⟨i, _, hi, hz, hs, hb, rfl⟩⟩
end Go.Proofs.Ytnpdoejjebgcpaa
namespace Go.Proofs.Ytnpdoejjebgcpaa
open Go Go.RowKit
theorem listGo_cons (n : Int) (p : Option Int) (v : Int) (r : List Int) : Hit.listGo n p (v :: r) = if v < 0 ∨ v ≥ n then 3 else if (match p with | some q => decide (v ≤ q) | none => false) = true then 6 else Hit.listGo n (some v) r := rfl
/-- What is before place k of a list. -/
def prevOf (l : List Int) (k : Nat) : Option Int := if k = 0 then none else l[k - 1]?
set_option maxHeartbeats 1000000 in
theorem list_any (n : Int) (vs vl : Value) (l : List Int) (w : World) (F : Nat → Prop) (hF : ∀ b, F b → b < w.heap.size) (hr : SlI F w vl l) :
    Calls Try.prog 66 #[.agg #[.int .i64 n, vs], vl] w fun e w' => e = .returned (.int .i64 (Hit.listF n l)) ∧ Below w.heap.size w w' := by
  obtain ⟨A, c, rfl, hlc, hl, hat⟩ := hr.open
  clear hr
  go_enter Try.func66, Try.ntmps66
  go_wp2_with fail
  go_loopg [9] l.length (fun gg s wr => ∃ k : Nat, k ≤ l.length ∧ l.length - k ≤ gg ∧ s = .int .i64 k ∧ Aside (Hit.listF n l = Hit.listGo n (prevOf l k) (l.drop k)) ∧ wr = w.alloc (.cells #[.int .i64 n, vs] 38))
  case atStart => exact ⟨0, by omega, by omega, rfl, by simp [Aside, Hit.listF, prevOf], rfl⟩
  case round =>
    obtain ⟨k, hk, hg, rfl, HL, rfl⟩ := hrel
    have hb : Below w.heap.size w (w.alloc (.cells #[.int .i64 n, vs] 38)) := Ba (B0 w) _
    by_cases hlt : k < l.length
    · have hki : decide ((k : Int) < l.length) = true := decide_eq_true (by omega)
      obtain ⟨ad, rfl, hf, hc⟩ := hat k hlt
      have hc' := (hb.cell (p := ad.add k) (by rw [block_of_add]; exact hF _ hf)).trans hc
      have hd : Hit.listF n l = Hit.listGo n (prevOf l k) (l[k] :: l.drop (k + 1)) := by rw [HL.out, List.drop_eq_getElem_cons hlt]
      have hs : prevOf l (k + 1) = some l[k] := by simp [prevOf, hlt]
      by_cases h1 : l[k] < 0 ∨ l[k] ≥ n
      · have hz : Hit.listF n l = 3 := by rw [hd, listGo_cons, if_pos h1]
        have HZ := Lib.hid hz
        have HB := Lib.hid hb
        generalize l[k] = v at *
        clear hat hd hs hz hc hb
        by_cases h0 : v < 0
        · have h0' : decide (v < 0) = true := decide_eq_true h0
          clear h1
          go_wp2
          go_ret
          exact ⟨by rw [HZ.out]; rfl, HB.out⟩
        · have h0' : decide (v < 0) = false := decide_eq_false h0
          have h1' : decide (n ≤ v) = true := decide_eq_true (by omega)
          clear h1
          go_wp2
          go_ret
          exact ⟨by rw [HZ.out]; rfl, HB.out⟩
      · have h0' : decide (l[k] < 0) = false := decide_eq_false (by omega)
        have h1' : decide (n ≤ l[k]) = false := decide_eq_false (by omega)
        rw [listGo_cons, if_neg h1] at hd
        by_cases hk0 : k = 0
        · subst hk0
          have hz : Hit.listF n l = Hit.listGo n (prevOf l 1) (l.drop 1) := by rw [hd, hs]; simp [prevOf]
          have HZ := Lib.hid hz
          have hc0 : (w.alloc (.cells #[.int .i64 n, vs] 38)).cell? ad = some (.int .i64 l[0]) := by simpa [Addr.add] using hc'
          generalize l[0] = v at *
          clear hat hd hs hz hc hb h1
          go_wp2
          go_roundg (l.length - 1)
          case measure => omega
          case rel => exact ⟨1, by omega, by omega, by go_num, HZ.out, rfl⟩
        · have hk0' : decide ((0 : Int) < (k : Int)) = true := decide_eq_true (by omega)
          obtain ⟨j, u, hj, hjl, hcp, hp⟩ : ∃ (j : Nat) (u : Int), (k : Int) - 1 = j ∧ (j : Int) < l.length ∧ (w.alloc (.cells #[.int .i64 n, vs] 38)).cell? (ad.add j) = some (.int .i64 u) ∧ prevOf l k = some u := by
            obtain ⟨ad2, e2, hf2, hc2⟩ := hat (k - 1) (by omega)
            injection e2 with e2
            subst e2
            exact ⟨k - 1, l[k - 1], by omega, by omega, (hb.cell (p := ad.add (k - 1)) (by rw [block_of_add]; exact hF _ hf2)).trans hc2, by unfold prevOf; rw [if_neg hk0, List.getElem?_eq_getElem (by omega)]⟩
          rw [hp] at hd
          simp only [decide_eq_true_eq] at hd
          by_cases h2 : l[k] ≤ u
          · have hz : Hit.listF n l = 6 := by rw [hd, if_pos h2]
            have h2' : decide (l[k] ≤ u) = true := decide_eq_true h2
            have HZ := Lib.hid hz
            have HB := Lib.hid hb
            generalize l[k] = v at *
            clear hat hd hs hz hc hb hp h1 h2
            go_wp2
            go_ret
            exact ⟨by rw [HZ.out]; rfl, HB.out⟩
          · have hz : Hit.listF n l = Hit.listGo n (prevOf l (k + 1)) (l.drop (k + 1)) := by rw [hd, if_neg h2, hs]
            have h2' : decide (l[k] ≤ u) = false := decide_eq_false h2
            have HZ := Lib.hid hz
            generalize l[k] = v at *
            clear hat hd hs hz hc hb hp h1 h2
            go_wp2
            go_roundg (l.length - (k + 1))
            case measure => omega
            case rel => exact ⟨k + 1, by omega, by omega, by go_num, HZ.out, rfl⟩
    · have hki : decide ((k : Int) < l.length) = false := decide_eq_false (by omega)
      have : k = l.length := by omega
      subst this
      have hz : Hit.listF n l = 0 := by rw [HL.out, List.drop_length]; rfl
      have HZ := Lib.hid hz
      have HB := Lib.hid hb
      clear hat hz hb
      go_wp2
      go_ret
      exact ⟨by rw [HZ.out]; rfl, HB.out⟩
theorem word_take (ns : List Nat) (k : Nat) (hk : k < ns.length) : Hit.word (ns.take (k + 1)) = Hit.word (ns.take k) ||| Hit.bit ns[k] := by
  unfold Hit.word
  rw [List.take_succ_eq_append_getElem hk, List.foldl_append]
  rfl
set_option maxHeartbeats 1000000 in
theorem word_any (vl : Value) (ns : List Nat) (hn : ∀ x ∈ ns, x < 32) (w : World) (F : Nat → Prop) (hr : SlI F w vl (Hit.ints ns)) :
    Calls Try.prog 67 #[vl] w fun e w' => e = .returned (.int .u32 (Hit.word ns : Nat)) ∧ w = w' := by
  obtain ⟨A, c, rfl, hlc, hl, hat⟩ := hr.open
  rw [ints_length] at hlc hl ⊢
  clear hr
  have hbd : ∀ k, Hit.word (ns.take k) < 2 ^ 32 := fun k => Hit.word_lt fun x hx => hn x (List.mem_of_mem_take hx)
  go_enter Try.func67, Try.ntmps67
  go_wp2
  go_loopg [3, 8] ns.length (fun gg s3 s wr => ∃ k : Nat, k ≤ ns.length ∧ ns.length - k ≤ gg ∧ s = .int .i64 k ∧ s3 = .int .u32 (Hit.word (ns.take k) : Nat) ∧ wr = w)
  case atStart => exact ⟨0, by omega, by omega, rfl, rfl, rfl⟩
  case round =>
    obtain ⟨k, hk, hg, rfl, rfl, rfl⟩ := hrel
    by_cases hlt : k < ns.length
    · have hki : decide ((k : Int) < ns.length) = true := decide_eq_true (by omega)
      obtain ⟨ad, rfl, hf, hc⟩ := hat k (by rw [ints_length]; exact hlt)
      rw [ints_get] at hc
      have hx := hn ns[k] (List.getElem_mem hlt)
      have hs := word_take ns k hlt
      have h1 := Hit.two_u32 ns[k] hx
      have h2 := Hit.u32_or _ _ (hbd k) (Hit.bit_lt hx)
      have H1 := Lib.hid h1
      have H2 := Lib.hid h2
      have HS := Lib.hid hs
      generalize Hit.word (ns.take k) = acc at *
      generalize ns[k] = x at *
      clear hat hn hbd h1 h2 hs
      go_wp2
      go_roundg (ns.length - (k + 1))
      case measure => omega
      case rel => exact ⟨k + 1, by omega, by omega, by go_num, by rw [HS.out, ← H2.out, ← H1.out], rfl⟩
    · have hki : decide ((k : Int) < ns.length) = false := decide_eq_false (by omega)
      have : k = ns.length := by omega
      subst this
      clear hat hbd
      go_wp2
      go_ret
      exact ⟨by rw [List.take_length]; rfl, rfl⟩
end Go.Proofs.Ytnpdoejjebgcpaa
