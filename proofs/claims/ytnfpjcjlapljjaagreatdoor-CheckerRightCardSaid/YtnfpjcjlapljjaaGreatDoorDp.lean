/- Walk over checker: Right (its drawn regions printed by mkrt.py). -/
import Derived.Test.YtnfpjcjlapljjaaGreatDoorDo
namespace Go.Proofs.YtnfpjcjlapljjaaGreatDoor
open Go Go.RowKit Go.Shelf
open Org
def reg0 : Array Value := #[.slice none 0 0, .int .u64 0, .int .u64 0]
/-- A pointer to a block, made from lim on. -/
def blkP (t : TypeId) (w : World) (v : Value) (lim : Nat) (cs : Array Value) : Prop := ∃ g, v = .pointer (some ⟨g, 0, none⟩) ∧ lim ≤ g ∧ Blk w g t cs
theorem blkP_below {t : TypeId} {w w' : World} {v : Value} {lim : Nat} {cs : Array Value} (h : blkP t w v lim cs) (hb : Below w.heap.size w w') : blkP t w' v lim cs := by
  obtain ⟨g, e, hl, hk⟩ := h
  exact ⟨g, e, hl, hk.below hb hk.lt⟩
def anyP (t : TypeId) (w : World) (v : Value) (lim n : Nat) : Prop := ∃ (g : Nat) (cs : Array Value), v = .pointer (some ⟨g, 0, none⟩) ∧ lim ≤ g ∧ Blk w g t cs ∧ cs.size = n
theorem anyP_below {t : TypeId} {w w' : World} {v : Value} {lim n : Nat} (h : anyP t w v lim n) (hb : Below w.heap.size w w') : anyP t w' v lim n := by
  obtain ⟨g, cs, e, hl, hk, hz⟩ := h
  exact ⟨g, cs, e, hl, hk.below hb hk.lt, hz⟩
theorem arr4 (cs : Array Value) (h : cs.size = 4) : ∃ a b c d, cs = #[a, b, c, d] := by
  obtain ⟨l⟩ := cs
  match l, h with
  | [a, b, c, d], _ => exact ⟨a, b, c, d, rfl⟩
theorem arr3 (cs : Array Value) (h : cs.size = 3) : ∃ a b c, cs = #[a, b, c] := by
  obtain ⟨l⟩ := cs
  match l, h with
  | [a, b, c], _ => exact ⟨a, b, c, rfl⟩
def oneA (w : World) (v : Value) (x : Int) : Prop := ∃ g, v = .slice (some ⟨g, 0, none⟩) 1 1 ∧ Blk w g 3 #[.int .i64 x]
theorem oneA_below {w w' : World} {v : Value} {x : Int} (h : oneA w v x) (hb : Below w.heap.size w w') : oneA w' v x := by
  obtain ⟨g, e, hk⟩ := h
  exact ⟨g, e, hk.below hb hk.lt⟩
/-- within at two numbers. -/
theorem within_two (lo hi x y : Int) (b : Nat) (w : World) (hk : Blk w b 3 #[.int .i64 x, .int .i64 y]) :
    Calls Tryz.prog 21 #[.int .i64 lo, .int .i64 hi, .slice (some ⟨b, 0, none⟩) 2 2] w fun e w' => e = .returned (.bool ((decide (lo ≤ x) && decide (x ≤ hi)) && (decide (lo ≤ y) && decide (y ≤ hi)))) ∧ Below w.heap.size w w' := by
  have h := within_any lo hi (.slice (some ⟨b, 0, none⟩) 2 2) [x, y] w (fun b => b < w.heap.size) (fun _ h => h) (Sl.two_ (t := 3) (cs := [.int .i64 x]) (ds := [.int .i64 y]) hk hk.lt rfl rfl rfl rfl)
  have e : withinB lo hi [x, y] = ((decide (lo ≤ x) && decide (x ≤ hi)) && (decide (lo ≤ y) && decide (y ≤ hi))) := by
    have h1 := withinB_one lo hi x
    have h2 := withinB_one lo hi y
    unfold withinB at *
    rw [List.all_cons, h2]
  rw [e] at h
  exact h
theorem aft27 {l : List Oper} {a0 : Act} {y : Nat → Value} {d0 d1 d2 d3 d4 d5 d6 d7 d8 d9 d10 d11 d12 d13 d14 d15 d16 d17 d18 d19 d20 d21 d22 d23 d24 d25 d26 : Nat} {L : List Value} {df} (h : l.filterMap (·.dst) = [d0, d1, d2, d3, d4, d5, d6, d7, d8, d9, d10, d11, d12, d13, d14, d15, d16, d17, d18, d19, d20, d21, d22, d23, d24, d25, d26]) (e : a0 = ⟨L.toArray, df⟩) : after l a0 y = ⟨(((((((((((((((((((((((((((L.set d0 (y d0)).set d1 (y d1)).set d2 (y d2)).set d3 (y d3)).set d4 (y d4)).set d5 (y d5)).set d6 (y d6)).set d7 (y d7)).set d8 (y d8)).set d9 (y d9)).set d10 (y d10)).set d11 (y d11)).set d12 (y d12)).set d13 (y d13)).set d14 (y d14)).set d15 (y d15)).set d16 (y d16)).set d17 (y d17)).set d18 (y d18)).set d19 (y d19)).set d20 (y d20)).set d21 (y d21)).set d22 (y d22)).set d23 (y d23)).set d24 (y d24)).set d25 (y d25)).set d26 (y d26)).toArray, df⟩ := by
  subst e
  unfold after; rw [h]; simp only [List.foldl_cons, List.foldl_nil, List.setIfInBounds_toArray]
/-- What holds behind each operation of a drawn region. -/
def FR1 (b : Nat) (on : ByteArray) (Ar Ad Ac As : Option Addr) (nr cr nd cd nc cc ns cs cp of lim : Nat) (j : Nat) (s : Nat → Value) (w : World) : Prop :=
  match j with
  | 0 => s 15 = .pointer (some ⟨b, 0, none⟩)
  | 1 => s 16 = .agg #[.string on, .slice Ar nr cr, .slice Ad nd cd, .slice Ac nc cc]
  | 2 => s 17 = .pointer (some ⟨b, 4, none⟩)
  | 3 => s 18 = .agg #[.slice As ns cs, .int .u64 (cp : Int), .int .u64 (of : Int)]
  | 4 => anyP 40 w (s 3) lim 4
  | 5 => anyP 44 w (s 4) lim 3
  | 6 => blkP 40 w (s 3) lim #[.string on, .slice Ar nr cr, .slice Ad nd cd, .slice Ac nc cc]
  | 7 => blkP 44 w (s 4) lim #[.slice As ns cs, .int .u64 (cp : Int), .int .u64 (of : Int)]
  | _ => True
def VR1 (j : Nat) : List Nat := match j with
  | 0 => [15] | 1 => [16] | 2 => [17] | 3 => [18] | 4 => [3] | 5 => [4] | 6 => [3] | 7 => [4] | _ => []
def ER1 (j : Nat) : Bool := j == 6 || j == 7
theorem FR1_V (b : Nat) (on : ByteArray) (Ar Ad Ac As : Option Addr) (nr cr nd cd nc cc ns cs cp of lim : Nat) (j : Nat) (s s' : Nat → Value) (w : World) (h : ∀ t, t ∈ VR1 j → s' t = s t) (hF : FR1 b on Ar Ad Ac As nr cr nd cd nc cc ns cs cp of lim j s w) : FR1 b on Ar Ad Ac As nr cr nd cd nc cc ns cs cp of lim j s' w := by
  match j with
  | 0 => unfold FR1 at hF ⊢; simp only at hF ⊢; rw [h 15 (by simp [VR1])]; exact hF
  | 1 => unfold FR1 at hF ⊢; simp only at hF ⊢; rw [h 16 (by simp [VR1])]; exact hF
  | 2 => unfold FR1 at hF ⊢; simp only at hF ⊢; rw [h 17 (by simp [VR1])]; exact hF
  | 3 => unfold FR1 at hF ⊢; simp only at hF ⊢; rw [h 18 (by simp [VR1])]; exact hF
  | 4 => unfold FR1 at hF ⊢; simp only at hF ⊢; rw [h 3 (by simp [VR1])]; exact hF
  | 5 => unfold FR1 at hF ⊢; simp only at hF ⊢; rw [h 4 (by simp [VR1])]; exact hF
  | 6 => unfold FR1 at hF ⊢; simp only at hF ⊢; rw [h 3 (by simp [VR1])]; exact hF
  | 7 => unfold FR1 at hF ⊢; simp only at hF ⊢; rw [h 4 (by simp [VR1])]; exact hF
  | _ + 8 => trivial
theorem FR1_below (b : Nat) (on : ByteArray) (Ar Ad Ac As : Option Addr) (nr cr nd cd nc cc ns cs cp of lim : Nat) (j : Nat) (s : Nat → Value) (w w' : World) (hb : Below w.heap.size w w') (hF : FR1 b on Ar Ad Ac As nr cr nd cd nc cc ns cs cp of lim j s w) : FR1 b on Ar Ad Ac As nr cr nd cd nc cc ns cs cp of lim j s w' := by
  match j with
  | 0 => exact hF
  | 1 => exact hF
  | 2 => exact hF
  | 3 => exact hF
  | 4 => exact anyP_below hF hb
  | 5 => exact anyP_below hF hb
  | 6 => exact blkP_below hF hb
  | 7 => exact blkP_below hF hb
  | _ + 8 => trivial
/-- What holds behind each operation of a drawn region. -/
def FN4B (b rb db k nd ck cs ls ct xl xh v v5 : Nat) (adk ads p q : Addr) (At : Option Addr) (lo hi : Int) (j : Nat) (s : Nat → Value) (_w : World) : Prop :=
  match j with
  | 0 => s 83 = .pointer (some ⟨db, 4, none⟩)
  | 1 => s 84 = .slice At ls ct
  | 2 => s 85 = .int .i64 (ls : Int)
  | 3 => s 86 = .bool false
  | 4 => s 87 = .bool false
  | 5 => s 88 = .pointer (some ⟨db, 2, none⟩)
  | 6 => s 89 = .agg #[.int .i64 lo, .int .i64 hi]
  | 7 => s 90 = .pointer (some ⟨b, 7, none⟩)
  | 8 => s 91 = .slice (some adk) nd ck
  | 9 => s 92 = .int .i64 (k : Int)
  | 10 => s 93 = .pointer (some p)
  | 11 => s 94 = .agg #[.int .u64 (xl : Int), .int .u64 (xh : Int)]
  | 12 => s 95 = .bool false
  | 13 => s 96 = .bool true
  | 14 => s 97 = .bool true
  | 15 => s 98 = .bool true
  | 16 => True
  | 17 => True
  | 18 => True
  | 19 => True
  | 20 => True
  | 21 => True
  | 22 => True
  | 23 => True
  | 24 => True
  | 25 => True
  | 26 => s 109 = .bool true
  | _ => True
def VN4B (j : Nat) : List Nat := match j with
  | 0 => [83] | 1 => [84] | 2 => [85] | 3 => [86] | 4 => [87] | 5 => [88] | 6 => [89] | 7 => [90] | 8 => [91] | 9 => [92] | 10 => [93] | 11 => [94] | 12 => [95] | 13 => [96] | 14 => [97] | 15 => [98] | 16 => [99] | 17 => [100] | 18 => [101] | 19 => [102] | 20 => [103] | 21 => [104] | 22 => [105] | 23 => [106] | 24 => [107] | 25 => [108] | 26 => [109] | _ => []
def EN4B (j : Nat) : Bool := j == 26
theorem FN4B_V (b rb db k nd ck cs ls ct xl xh v v5 : Nat) (adk ads p q : Addr) (At : Option Addr) (lo hi : Int) (j : Nat) (s s' : Nat → Value) (w : World) (h : ∀ t, t ∈ VN4B j → s' t = s t) (hF : FN4B b rb db k nd ck cs ls ct xl xh v v5 adk ads p q At lo hi j s w) : FN4B b rb db k nd ck cs ls ct xl xh v v5 adk ads p q At lo hi j s' w := by
  match j with
  | 0 => unfold FN4B at hF ⊢; simp only at hF ⊢; rw [h 83 (by simp [VN4B])]; exact hF
  | 1 => unfold FN4B at hF ⊢; simp only at hF ⊢; rw [h 84 (by simp [VN4B])]; exact hF
  | 2 => unfold FN4B at hF ⊢; simp only at hF ⊢; rw [h 85 (by simp [VN4B])]; exact hF
  | 3 => unfold FN4B at hF ⊢; simp only at hF ⊢; rw [h 86 (by simp [VN4B])]; exact hF
  | 4 => unfold FN4B at hF ⊢; simp only at hF ⊢; rw [h 87 (by simp [VN4B])]; exact hF
  | 5 => unfold FN4B at hF ⊢; simp only at hF ⊢; rw [h 88 (by simp [VN4B])]; exact hF
  | 6 => unfold FN4B at hF ⊢; simp only at hF ⊢; rw [h 89 (by simp [VN4B])]; exact hF
  | 7 => unfold FN4B at hF ⊢; simp only at hF ⊢; rw [h 90 (by simp [VN4B])]; exact hF
  | 8 => unfold FN4B at hF ⊢; simp only at hF ⊢; rw [h 91 (by simp [VN4B])]; exact hF
  | 9 => unfold FN4B at hF ⊢; simp only at hF ⊢; rw [h 92 (by simp [VN4B])]; exact hF
  | 10 => unfold FN4B at hF ⊢; simp only at hF ⊢; rw [h 93 (by simp [VN4B])]; exact hF
  | 11 => unfold FN4B at hF ⊢; simp only at hF ⊢; rw [h 94 (by simp [VN4B])]; exact hF
  | 12 => unfold FN4B at hF ⊢; simp only at hF ⊢; rw [h 95 (by simp [VN4B])]; exact hF
  | 13 => unfold FN4B at hF ⊢; simp only at hF ⊢; rw [h 96 (by simp [VN4B])]; exact hF
  | 14 => unfold FN4B at hF ⊢; simp only at hF ⊢; rw [h 97 (by simp [VN4B])]; exact hF
  | 15 => unfold FN4B at hF ⊢; simp only at hF ⊢; rw [h 98 (by simp [VN4B])]; exact hF
  | 16 => exact hF
  | 17 => exact hF
  | 18 => exact hF
  | 19 => exact hF
  | 20 => exact hF
  | 21 => exact hF
  | 22 => exact hF
  | 23 => exact hF
  | 24 => exact hF
  | 25 => exact hF
  | 26 => unfold FN4B at hF ⊢; simp only at hF ⊢; rw [h 109 (by simp [VN4B])]; exact hF
  | _ + 27 => trivial
theorem FN4B_below (b rb db k nd ck cs ls ct xl xh v v5 : Nat) (adk ads p q : Addr) (At : Option Addr) (lo hi : Int) (j : Nat) (s : Nat → Value) (w w' : World) (_hb : Below w.heap.size w w') (hF : FN4B b rb db k nd ck cs ls ct xl xh v v5 adk ads p q At lo hi j s w) : FN4B b rb db k nd ck cs ls ct xl xh v v5 adk ads p q At lo hi j s w' := by
  match j with
  | 0 => exact hF
  | 1 => exact hF
  | 2 => exact hF
  | 3 => exact hF
  | 4 => exact hF
  | 5 => exact hF
  | 6 => exact hF
  | 7 => exact hF
  | 8 => exact hF
  | 9 => exact hF
  | 10 => exact hF
  | 11 => exact hF
  | 12 => exact hF
  | 13 => exact hF
  | 14 => exact hF
  | 15 => exact hF
  | 16 => exact hF
  | 17 => exact hF
  | 18 => exact hF
  | 19 => exact hF
  | 20 => exact hF
  | 21 => exact hF
  | 22 => exact hF
  | 23 => exact hF
  | 24 => exact hF
  | 25 => exact hF
  | 26 => exact hF
  | _ + 27 => trivial
/-- What holds behind each operation of a drawn region. -/
def FN4C (b rb db k nd ck cs ls ct xl xh v v5 : Nat) (adk ads p q : Addr) (At : Option Addr) (lo hi : Int) (j : Nat) (s : Nat → Value) (_w : World) : Prop :=
  match j with
  | 0 => s 83 = .pointer (some ⟨db, 4, none⟩)
  | 1 => s 84 = .slice At ls ct
  | 2 => s 85 = .int .i64 (ls : Int)
  | 3 => s 86 = .bool false
  | 4 => s 87 = .bool false
  | 5 => s 88 = .pointer (some ⟨db, 2, none⟩)
  | 6 => s 89 = .agg #[.int .i64 lo, .int .i64 hi]
  | 7 => s 90 = .pointer (some ⟨b, 7, none⟩)
  | 8 => s 91 = .slice (some adk) nd ck
  | 9 => s 92 = .int .i64 (k : Int)
  | 10 => s 93 = .pointer (some p)
  | 11 => s 94 = .agg #[.int .u64 (xl : Int), .int .u64 (xh : Int)]
  | 12 => s 95 = .bool true
  | 13 => s 96 = .bool false
  | 14 => s 97 = .bool false
  | 15 => s 98 = .bool false
  | 16 => s 99 = .pointer (some ⟨rb, 0, none⟩)
  | 17 => s 100 = .slice (some ads) nd cs
  | 18 => s 101 = .int .i64 (k : Int)
  | 19 => s 102 = .pointer (some q)
  | 20 => s 103 = .int .u64 (v : Int)
  | 21 => s 104 = .pointer (some ⟨db, 4, none⟩)
  | 22 => s 105 = .slice At ls ct
  | 23 => s 106 = .int .i64 (ls : Int)
  | 24 => s 107 = .int .u64 (v5 : Int)
  | 25 => s 108 = .bool false
  | 26 => s 109 = .bool false
  | _ => True
def VN4C (j : Nat) : List Nat := match j with
  | 0 => [83] | 1 => [84] | 2 => [85] | 3 => [86] | 4 => [87] | 5 => [88] | 6 => [89] | 7 => [90] | 8 => [91] | 9 => [92] | 10 => [93] | 11 => [94] | 12 => [95] | 13 => [96] | 14 => [97] | 15 => [98] | 16 => [99] | 17 => [100] | 18 => [101] | 19 => [102] | 20 => [103] | 21 => [104] | 22 => [105] | 23 => [106] | 24 => [107] | 25 => [108] | 26 => [109] | _ => []
def EN4C (j : Nat) : Bool := j == 26
theorem FN4C_V (b rb db k nd ck cs ls ct xl xh v v5 : Nat) (adk ads p q : Addr) (At : Option Addr) (lo hi : Int) (j : Nat) (s s' : Nat → Value) (w : World) (h : ∀ t, t ∈ VN4C j → s' t = s t) (hF : FN4C b rb db k nd ck cs ls ct xl xh v v5 adk ads p q At lo hi j s w) : FN4C b rb db k nd ck cs ls ct xl xh v v5 adk ads p q At lo hi j s' w := by
  match j with
  | 0 => unfold FN4C at hF ⊢; simp only at hF ⊢; rw [h 83 (by simp [VN4C])]; exact hF
  | 1 => unfold FN4C at hF ⊢; simp only at hF ⊢; rw [h 84 (by simp [VN4C])]; exact hF
  | 2 => unfold FN4C at hF ⊢; simp only at hF ⊢; rw [h 85 (by simp [VN4C])]; exact hF
  | 3 => unfold FN4C at hF ⊢; simp only at hF ⊢; rw [h 86 (by simp [VN4C])]; exact hF
  | 4 => unfold FN4C at hF ⊢; simp only at hF ⊢; rw [h 87 (by simp [VN4C])]; exact hF
  | 5 => unfold FN4C at hF ⊢; simp only at hF ⊢; rw [h 88 (by simp [VN4C])]; exact hF
  | 6 => unfold FN4C at hF ⊢; simp only at hF ⊢; rw [h 89 (by simp [VN4C])]; exact hF
  | 7 => unfold FN4C at hF ⊢; simp only at hF ⊢; rw [h 90 (by simp [VN4C])]; exact hF
  | 8 => unfold FN4C at hF ⊢; simp only at hF ⊢; rw [h 91 (by simp [VN4C])]; exact hF
  | 9 => unfold FN4C at hF ⊢; simp only at hF ⊢; rw [h 92 (by simp [VN4C])]; exact hF
  | 10 => unfold FN4C at hF ⊢; simp only at hF ⊢; rw [h 93 (by simp [VN4C])]; exact hF
  | 11 => unfold FN4C at hF ⊢; simp only at hF ⊢; rw [h 94 (by simp [VN4C])]; exact hF
  | 12 => unfold FN4C at hF ⊢; simp only at hF ⊢; rw [h 95 (by simp [VN4C])]; exact hF
  | 13 => unfold FN4C at hF ⊢; simp only at hF ⊢; rw [h 96 (by simp [VN4C])]; exact hF
  | 14 => unfold FN4C at hF ⊢; simp only at hF ⊢; rw [h 97 (by simp [VN4C])]; exact hF
  | 15 => unfold FN4C at hF ⊢; simp only at hF ⊢; rw [h 98 (by simp [VN4C])]; exact hF
  | 16 => unfold FN4C at hF ⊢; simp only at hF ⊢; rw [h 99 (by simp [VN4C])]; exact hF
  | 17 => unfold FN4C at hF ⊢; simp only at hF ⊢; rw [h 100 (by simp [VN4C])]; exact hF
  | 18 => unfold FN4C at hF ⊢; simp only at hF ⊢; rw [h 101 (by simp [VN4C])]; exact hF
  | 19 => unfold FN4C at hF ⊢; simp only at hF ⊢; rw [h 102 (by simp [VN4C])]; exact hF
  | 20 => unfold FN4C at hF ⊢; simp only at hF ⊢; rw [h 103 (by simp [VN4C])]; exact hF
  | 21 => unfold FN4C at hF ⊢; simp only at hF ⊢; rw [h 104 (by simp [VN4C])]; exact hF
  | 22 => unfold FN4C at hF ⊢; simp only at hF ⊢; rw [h 105 (by simp [VN4C])]; exact hF
  | 23 => unfold FN4C at hF ⊢; simp only at hF ⊢; rw [h 106 (by simp [VN4C])]; exact hF
  | 24 => unfold FN4C at hF ⊢; simp only at hF ⊢; rw [h 107 (by simp [VN4C])]; exact hF
  | 25 => unfold FN4C at hF ⊢; simp only at hF ⊢; rw [h 108 (by simp [VN4C])]; exact hF
  | 26 => unfold FN4C at hF ⊢; simp only at hF ⊢; rw [h 109 (by simp [VN4C])]; exact hF
  | _ + 27 => trivial
theorem FN4C_below (b rb db k nd ck cs ls ct xl xh v v5 : Nat) (adk ads p q : Addr) (At : Option Addr) (lo hi : Int) (j : Nat) (s : Nat → Value) (w w' : World) (_hb : Below w.heap.size w w') (hF : FN4C b rb db k nd ck cs ls ct xl xh v v5 adk ads p q At lo hi j s w) : FN4C b rb db k nd ck cs ls ct xl xh v v5 adk ads p q At lo hi j s w' := by
  match j with
  | 0 => exact hF
  | 1 => exact hF
  | 2 => exact hF
  | 3 => exact hF
  | 4 => exact hF
  | 5 => exact hF
  | 6 => exact hF
  | 7 => exact hF
  | 8 => exact hF
  | 9 => exact hF
  | 10 => exact hF
  | 11 => exact hF
  | 12 => exact hF
  | 13 => exact hF
  | 14 => exact hF
  | 15 => exact hF
  | 16 => exact hF
  | 17 => exact hF
  | 18 => exact hF
  | 19 => exact hF
  | 20 => exact hF
  | 21 => exact hF
  | 22 => exact hF
  | 23 => exact hF
  | 24 => exact hF
  | 25 => exact hF
  | 26 => exact hF
  | _ + 27 => trivial
/-- What holds behind each operation of a drawn region. -/
def FN4E (b rb db k nd ck cs ls ct xl xh v v5 : Nat) (adk ads p q : Addr) (At : Option Addr) (lo hi : Int) (j : Nat) (s : Nat → Value) (_w : World) : Prop :=
  match j with
  | 0 => s 83 = .pointer (some ⟨db, 4, none⟩)
  | 1 => s 84 = .slice At ls ct
  | 2 => s 85 = .int .i64 (ls : Int)
  | 3 => s 86 = .bool false
  | 4 => s 87 = .bool false
  | 5 => s 88 = .pointer (some ⟨db, 2, none⟩)
  | 6 => s 89 = .agg #[.int .i64 lo, .int .i64 hi]
  | 7 => s 90 = .pointer (some ⟨b, 7, none⟩)
  | 8 => s 91 = .slice (some adk) nd ck
  | 9 => s 92 = .int .i64 (k : Int)
  | 10 => s 93 = .pointer (some p)
  | 11 => s 94 = .agg #[.int .u64 (xl : Int), .int .u64 (xh : Int)]
  | 12 => s 95 = .bool true
  | 13 => s 96 = .bool false
  | 14 => s 97 = .bool false
  | 15 => s 98 = .bool false
  | 16 => s 99 = .pointer (some ⟨rb, 0, none⟩)
  | 17 => s 100 = .slice (some ads) nd cs
  | 18 => s 101 = .int .i64 (k : Int)
  | 19 => s 102 = .pointer (some q)
  | 20 => s 103 = .int .u64 (v : Int)
  | 21 => s 104 = .pointer (some ⟨db, 4, none⟩)
  | 22 => s 105 = .slice At ls ct
  | 23 => s 106 = .int .i64 (ls : Int)
  | 24 => s 107 = .int .u64 (v5 : Int)
  | 25 => s 108 = .bool true
  | 26 => s 109 = .bool true
  | _ => True
def VN4E (j : Nat) : List Nat := match j with
  | 0 => [83] | 1 => [84] | 2 => [85] | 3 => [86] | 4 => [87] | 5 => [88] | 6 => [89] | 7 => [90] | 8 => [91] | 9 => [92] | 10 => [93] | 11 => [94] | 12 => [95] | 13 => [96] | 14 => [97] | 15 => [98] | 16 => [99] | 17 => [100] | 18 => [101] | 19 => [102] | 20 => [103] | 21 => [104] | 22 => [105] | 23 => [106] | 24 => [107] | 25 => [108] | 26 => [109] | _ => []
def EN4E (j : Nat) : Bool := j == 26
theorem FN4E_V (b rb db k nd ck cs ls ct xl xh v v5 : Nat) (adk ads p q : Addr) (At : Option Addr) (lo hi : Int) (j : Nat) (s s' : Nat → Value) (w : World) (h : ∀ t, t ∈ VN4E j → s' t = s t) (hF : FN4E b rb db k nd ck cs ls ct xl xh v v5 adk ads p q At lo hi j s w) : FN4E b rb db k nd ck cs ls ct xl xh v v5 adk ads p q At lo hi j s' w := by
  match j with
  | 0 => unfold FN4E at hF ⊢; simp only at hF ⊢; rw [h 83 (by simp [VN4E])]; exact hF
  | 1 => unfold FN4E at hF ⊢; simp only at hF ⊢; rw [h 84 (by simp [VN4E])]; exact hF
  | 2 => unfold FN4E at hF ⊢; simp only at hF ⊢; rw [h 85 (by simp [VN4E])]; exact hF
  | 3 => unfold FN4E at hF ⊢; simp only at hF ⊢; rw [h 86 (by simp [VN4E])]; exact hF
  | 4 => unfold FN4E at hF ⊢; simp only at hF ⊢; rw [h 87 (by simp [VN4E])]; exact hF
  | 5 => unfold FN4E at hF ⊢; simp only at hF ⊢; rw [h 88 (by simp [VN4E])]; exact hF
  | 6 => unfold FN4E at hF ⊢; simp only at hF ⊢; rw [h 89 (by simp [VN4E])]; exact hF
  | 7 => unfold FN4E at hF ⊢; simp only at hF ⊢; rw [h 90 (by simp [VN4E])]; exact hF
  | 8 => unfold FN4E at hF ⊢; simp only at hF ⊢; rw [h 91 (by simp [VN4E])]; exact hF
  | 9 => unfold FN4E at hF ⊢; simp only at hF ⊢; rw [h 92 (by simp [VN4E])]; exact hF
  | 10 => unfold FN4E at hF ⊢; simp only at hF ⊢; rw [h 93 (by simp [VN4E])]; exact hF
  | 11 => unfold FN4E at hF ⊢; simp only at hF ⊢; rw [h 94 (by simp [VN4E])]; exact hF
  | 12 => unfold FN4E at hF ⊢; simp only at hF ⊢; rw [h 95 (by simp [VN4E])]; exact hF
  | 13 => unfold FN4E at hF ⊢; simp only at hF ⊢; rw [h 96 (by simp [VN4E])]; exact hF
  | 14 => unfold FN4E at hF ⊢; simp only at hF ⊢; rw [h 97 (by simp [VN4E])]; exact hF
  | 15 => unfold FN4E at hF ⊢; simp only at hF ⊢; rw [h 98 (by simp [VN4E])]; exact hF
  | 16 => unfold FN4E at hF ⊢; simp only at hF ⊢; rw [h 99 (by simp [VN4E])]; exact hF
  | 17 => unfold FN4E at hF ⊢; simp only at hF ⊢; rw [h 100 (by simp [VN4E])]; exact hF
  | 18 => unfold FN4E at hF ⊢; simp only at hF ⊢; rw [h 101 (by simp [VN4E])]; exact hF
  | 19 => unfold FN4E at hF ⊢; simp only at hF ⊢; rw [h 102 (by simp [VN4E])]; exact hF
  | 20 => unfold FN4E at hF ⊢; simp only at hF ⊢; rw [h 103 (by simp [VN4E])]; exact hF
  | 21 => unfold FN4E at hF ⊢; simp only at hF ⊢; rw [h 104 (by simp [VN4E])]; exact hF
  | 22 => unfold FN4E at hF ⊢; simp only at hF ⊢; rw [h 105 (by simp [VN4E])]; exact hF
  | 23 => unfold FN4E at hF ⊢; simp only at hF ⊢; rw [h 106 (by simp [VN4E])]; exact hF
  | 24 => unfold FN4E at hF ⊢; simp only at hF ⊢; rw [h 107 (by simp [VN4E])]; exact hF
  | 25 => unfold FN4E at hF ⊢; simp only at hF ⊢; rw [h 108 (by simp [VN4E])]; exact hF
  | 26 => unfold FN4E at hF ⊢; simp only at hF ⊢; rw [h 109 (by simp [VN4E])]; exact hF
  | _ + 27 => trivial
theorem FN4E_below (b rb db k nd ck cs ls ct xl xh v v5 : Nat) (adk ads p q : Addr) (At : Option Addr) (lo hi : Int) (j : Nat) (s : Nat → Value) (w w' : World) (_hb : Below w.heap.size w w') (hF : FN4E b rb db k nd ck cs ls ct xl xh v v5 adk ads p q At lo hi j s w) : FN4E b rb db k nd ck cs ls ct xl xh v v5 adk ads p q At lo hi j s w' := by
  match j with
  | 0 => exact hF
  | 1 => exact hF
  | 2 => exact hF
  | 3 => exact hF
  | 4 => exact hF
  | 5 => exact hF
  | 6 => exact hF
  | 7 => exact hF
  | 8 => exact hF
  | 9 => exact hF
  | 10 => exact hF
  | 11 => exact hF
  | 12 => exact hF
  | 13 => exact hF
  | 14 => exact hF
  | 15 => exact hF
  | 16 => exact hF
  | 17 => exact hF
  | 18 => exact hF
  | 19 => exact hF
  | 20 => exact hF
  | 21 => exact hF
  | 22 => exact hF
  | 23 => exact hF
  | 24 => exact hF
  | 25 => exact hF
  | 26 => exact hF
  | _ + 27 => trivial
/-- What holds behind each operation of a drawn region. -/
def FN5F (ob qb nr cr : Nat) (rank : Int) (Ar : Option Addr) (j : Nat) (s : Nat → Value) (w : World) : Prop :=
  match j with
  | 0 => s 149 = .pointer (some ⟨ob, 1, none⟩)
  | 1 => s 150 = .slice Ar nr cr
  | 2 => s 151 = .int .i64 (nr : Int)
  | 3 => s 152 = .int .i64 ((nr : Int) - 1)
  | 4 => s 153 = .pointer (some ⟨qb, 0, none⟩)
  | 5 => s 154 = .int .i64 rank
  | 6 => oneA w (s 155) rank
  | 7 => s 156 = .bool false
  | 8 => s 157 = .bool false
  | 9 => True
  | 10 => True
  | 11 => True
  | 12 => True
  | 13 => True
  | 14 => True
  | 15 => True
  | 16 => True
  | 17 => True
  | 18 => True
  | 19 => True
  | 20 => True
  | 21 => True
  | 22 => s 171 = .bool false
  | 23 => s 2 = .bool false
  | _ => True
def VN5F (j : Nat) : List Nat := match j with
  | 0 => [149] | 1 => [150] | 2 => [151] | 3 => [152] | 4 => [153] | 5 => [154] | 6 => [155] | 7 => [156] | 8 => [157] | 9 => [158] | 10 => [159] | 11 => [160] | 12 => [161] | 13 => [162] | 14 => [163] | 15 => [164] | 16 => [165] | 17 => [166] | 18 => [167] | 19 => [168] | 20 => [169] | 21 => [170] | 22 => [171] | 23 => [2] | _ => []
def EN5F (j : Nat) : Bool := j == 23
theorem FN5F_V (ob qb nr cr : Nat) (rank : Int) (Ar : Option Addr) (j : Nat) (s s' : Nat → Value) (w : World) (h : ∀ t, t ∈ VN5F j → s' t = s t) (hF : FN5F ob qb nr cr rank Ar j s w) : FN5F ob qb nr cr rank Ar j s' w := by
  match j with
  | 0 => unfold FN5F at hF ⊢; simp only at hF ⊢; rw [h 149 (by simp [VN5F])]; exact hF
  | 1 => unfold FN5F at hF ⊢; simp only at hF ⊢; rw [h 150 (by simp [VN5F])]; exact hF
  | 2 => unfold FN5F at hF ⊢; simp only at hF ⊢; rw [h 151 (by simp [VN5F])]; exact hF
  | 3 => unfold FN5F at hF ⊢; simp only at hF ⊢; rw [h 152 (by simp [VN5F])]; exact hF
  | 4 => unfold FN5F at hF ⊢; simp only at hF ⊢; rw [h 153 (by simp [VN5F])]; exact hF
  | 5 => unfold FN5F at hF ⊢; simp only at hF ⊢; rw [h 154 (by simp [VN5F])]; exact hF
  | 6 => unfold FN5F at hF ⊢; simp only at hF ⊢; rw [h 155 (by simp [VN5F])]; exact hF
  | 7 => unfold FN5F at hF ⊢; simp only at hF ⊢; rw [h 156 (by simp [VN5F])]; exact hF
  | 8 => unfold FN5F at hF ⊢; simp only at hF ⊢; rw [h 157 (by simp [VN5F])]; exact hF
  | 9 => exact hF
  | 10 => exact hF
  | 11 => exact hF
  | 12 => exact hF
  | 13 => exact hF
  | 14 => exact hF
  | 15 => exact hF
  | 16 => exact hF
  | 17 => exact hF
  | 18 => exact hF
  | 19 => exact hF
  | 20 => exact hF
  | 21 => exact hF
  | 22 => unfold FN5F at hF ⊢; simp only at hF ⊢; rw [h 171 (by simp [VN5F])]; exact hF
  | 23 => unfold FN5F at hF ⊢; simp only at hF ⊢; rw [h 2 (by simp [VN5F])]; exact hF
  | _ + 24 => trivial
theorem FN5F_below (ob qb nr cr : Nat) (rank : Int) (Ar : Option Addr) (j : Nat) (s : Nat → Value) (w w' : World) (hb : Below w.heap.size w w') (hF : FN5F ob qb nr cr rank Ar j s w) : FN5F ob qb nr cr rank Ar j s w' := by
  match j with
  | 0 => exact hF
  | 1 => exact hF
  | 2 => exact hF
  | 3 => exact hF
  | 4 => exact hF
  | 5 => exact hF
  | 6 => exact oneA_below hF hb
  | 7 => exact hF
  | 8 => exact hF
  | 9 => exact hF
  | 10 => exact hF
  | 11 => exact hF
  | 12 => exact hF
  | 13 => exact hF
  | 14 => exact hF
  | 15 => exact hF
  | 16 => exact hF
  | 17 => exact hF
  | 18 => exact hF
  | 19 => exact hF
  | 20 => exact hF
  | 21 => exact hF
  | 22 => exact hF
  | 23 => exact hF
  | _ + 24 => trivial
/-- What holds behind each operation of a drawn region. -/
def FN5G (ob qb nr cr nw cw rk : Nat) (num : Int) (ad p : Addr) (Aw : Option Addr) (R : Bool) (j : Nat) (s : Nat → Value) (w : World) : Prop :=
  match j with
  | 0 => s 149 = .pointer (some ⟨ob, 1, none⟩)
  | 1 => s 150 = .slice (some ad) nr cr
  | 2 => s 151 = .int .i64 (nr : Int)
  | 3 => s 152 = .int .i64 ((nr : Int) - 1)
  | 4 => s 153 = .pointer (some ⟨qb, 0, none⟩)
  | 5 => s 154 = .int .i64 (rk : Int)
  | 6 => oneA w (s 155) (rk : Int)
  | 7 => s 156 = .bool true
  | 8 => s 157 = .bool true
  | 9 => s 158 = .pointer (some ⟨ob, 1, none⟩)
  | 10 => s 159 = .slice (some ad) nr cr
  | 11 => s 160 = .pointer (some ⟨qb, 0, none⟩)
  | 12 => s 161 = .int .i64 (rk : Int)
  | 13 => s 162 = .pointer (some p)
  | 14 => s 163 = .pointer (some ⟨p.block, p.off + 5, none⟩)
  | 15 => s 164 = .slice Aw nw cw
  | 16 => s 165 = .int .i64 (nw : Int)
  | 17 => s 166 = .int .i64 ((nw : Int) - 1)
  | 18 => s 167 = .pointer (some ⟨qb, 1, none⟩)
  | 19 => s 168 = .int .i64 num
  | 20 => oneA w (s 169) num
  | 21 => s 170 = .bool R
  | 22 => s 171 = .bool R
  | 23 => s 2 = .bool R
  | _ => True
def VN5G (j : Nat) : List Nat := match j with
  | 0 => [149] | 1 => [150] | 2 => [151] | 3 => [152] | 4 => [153] | 5 => [154] | 6 => [155] | 7 => [156] | 8 => [157] | 9 => [158] | 10 => [159] | 11 => [160] | 12 => [161] | 13 => [162] | 14 => [163] | 15 => [164] | 16 => [165] | 17 => [166] | 18 => [167] | 19 => [168] | 20 => [169] | 21 => [170] | 22 => [171] | 23 => [2] | _ => []
def EN5G (j : Nat) : Bool := j == 23
theorem FN5G_V (ob qb nr cr nw cw rk : Nat) (num : Int) (ad p : Addr) (Aw : Option Addr) (R : Bool) (j : Nat) (s s' : Nat → Value) (w : World) (h : ∀ t, t ∈ VN5G j → s' t = s t) (hF : FN5G ob qb nr cr nw cw rk num ad p Aw R j s w) : FN5G ob qb nr cr nw cw rk num ad p Aw R j s' w := by
  match j with
  | 0 => unfold FN5G at hF ⊢; simp only at hF ⊢; rw [h 149 (by simp [VN5G])]; exact hF
  | 1 => unfold FN5G at hF ⊢; simp only at hF ⊢; rw [h 150 (by simp [VN5G])]; exact hF
  | 2 => unfold FN5G at hF ⊢; simp only at hF ⊢; rw [h 151 (by simp [VN5G])]; exact hF
  | 3 => unfold FN5G at hF ⊢; simp only at hF ⊢; rw [h 152 (by simp [VN5G])]; exact hF
  | 4 => unfold FN5G at hF ⊢; simp only at hF ⊢; rw [h 153 (by simp [VN5G])]; exact hF
  | 5 => unfold FN5G at hF ⊢; simp only at hF ⊢; rw [h 154 (by simp [VN5G])]; exact hF
  | 6 => unfold FN5G at hF ⊢; simp only at hF ⊢; rw [h 155 (by simp [VN5G])]; exact hF
  | 7 => unfold FN5G at hF ⊢; simp only at hF ⊢; rw [h 156 (by simp [VN5G])]; exact hF
  | 8 => unfold FN5G at hF ⊢; simp only at hF ⊢; rw [h 157 (by simp [VN5G])]; exact hF
  | 9 => unfold FN5G at hF ⊢; simp only at hF ⊢; rw [h 158 (by simp [VN5G])]; exact hF
  | 10 => unfold FN5G at hF ⊢; simp only at hF ⊢; rw [h 159 (by simp [VN5G])]; exact hF
  | 11 => unfold FN5G at hF ⊢; simp only at hF ⊢; rw [h 160 (by simp [VN5G])]; exact hF
  | 12 => unfold FN5G at hF ⊢; simp only at hF ⊢; rw [h 161 (by simp [VN5G])]; exact hF
  | 13 => unfold FN5G at hF ⊢; simp only at hF ⊢; rw [h 162 (by simp [VN5G])]; exact hF
  | 14 => unfold FN5G at hF ⊢; simp only at hF ⊢; rw [h 163 (by simp [VN5G])]; exact hF
  | 15 => unfold FN5G at hF ⊢; simp only at hF ⊢; rw [h 164 (by simp [VN5G])]; exact hF
  | 16 => unfold FN5G at hF ⊢; simp only at hF ⊢; rw [h 165 (by simp [VN5G])]; exact hF
  | 17 => unfold FN5G at hF ⊢; simp only at hF ⊢; rw [h 166 (by simp [VN5G])]; exact hF
  | 18 => unfold FN5G at hF ⊢; simp only at hF ⊢; rw [h 167 (by simp [VN5G])]; exact hF
  | 19 => unfold FN5G at hF ⊢; simp only at hF ⊢; rw [h 168 (by simp [VN5G])]; exact hF
  | 20 => unfold FN5G at hF ⊢; simp only at hF ⊢; rw [h 169 (by simp [VN5G])]; exact hF
  | 21 => unfold FN5G at hF ⊢; simp only at hF ⊢; rw [h 170 (by simp [VN5G])]; exact hF
  | 22 => unfold FN5G at hF ⊢; simp only at hF ⊢; rw [h 171 (by simp [VN5G])]; exact hF
  | 23 => unfold FN5G at hF ⊢; simp only at hF ⊢; rw [h 2 (by simp [VN5G])]; exact hF
  | _ + 24 => trivial
theorem FN5G_below (ob qb nr cr nw cw rk : Nat) (num : Int) (ad p : Addr) (Aw : Option Addr) (R : Bool) (j : Nat) (s : Nat → Value) (w w' : World) (hb : Below w.heap.size w w') (hF : FN5G ob qb nr cr nw cw rk num ad p Aw R j s w) : FN5G ob qb nr cr nw cw rk num ad p Aw R j s w' := by
  match j with
  | 0 => exact hF
  | 1 => exact hF
  | 2 => exact hF
  | 3 => exact hF
  | 4 => exact hF
  | 5 => exact hF
  | 6 => exact oneA_below hF hb
  | 7 => exact hF
  | 8 => exact hF
  | 9 => exact hF
  | 10 => exact hF
  | 11 => exact hF
  | 12 => exact hF
  | 13 => exact hF
  | 14 => exact hF
  | 15 => exact hF
  | 16 => exact hF
  | 17 => exact hF
  | 18 => exact hF
  | 19 => exact hF
  | 20 => exact oneA_below hF hb
  | 21 => exact hF
  | 22 => exact hF
  | 23 => exact hF
  | _ + 24 => trivial
set_option maxRecDepth 100000 in
set_option maxHeartbeats 4000000 in
theorem right_any (s : Snd) (hn : s.Num) (cs : List Value) (w : World) (F : Nat → Prop) (hF : ∀ c, F c → c < w.heap.size) (hC : SndC F w cs s) :
    Calls Tryz.prog 10 #[.agg cs.toArray] w fun e w' => e = .returned (.bool (rightF s)) ∧ Below w.heap.size w w' := by
  obtain ⟨vr, vd, vc, vs, vk, rfl, hR, hD, hC, hS, hK⟩ := hC
  obtain ⟨⟨on, ors, ods, ocs⟩, ⟨rst, cp, of⟩, kys, rank, num⟩ := s
  dsimp only at hR hD hC hS hK ⊢
  obtain ⟨hn1, hn2, hn3, hn4⟩ := hn
  dsimp only at hn1 hn2 hn3 hn4
  obtain ⟨Ar, cr, rfl, -⟩ := Sl.openF hR
  obtain ⟨Ad, cd, rfl, -⟩ := Sl.openF hD
  obtain ⟨Ac, cc, rfl, -⟩ := Sl.openF hC
  obtain ⟨As, cs, rfl, -⟩ := Sl.openF hS
  obtain ⟨Ak, ck, rfl, -, hkl, -⟩ := Sl.openF hK
  have hrl9 : ors.length ≤ 140737488355328 := by obtain ⟨_, _, _, _, h, _⟩ := Sl.openF hR; exact h
  have hdl9 : ods.length ≤ 140737488355328 := by obtain ⟨_, _, _, _, h, _⟩ := Sl.openF hD; exact h
  have hcl9 : ocs.length ≤ 140737488355328 := by obtain ⟨_, _, _, _, h, _⟩ := Sl.openF hC; exact h
  obtain ⟨RF, hRF⟩ : ∃ r, rightF ⟨⟨on, ors, ods, ocs⟩, ⟨rst, cp, of⟩, kys, rank, num⟩ = r := ⟨_, rfl⟩
  rw [hRF]
  obtain ⟨SS, hSS⟩ : ∃ s : Snd, (⟨⟨on, ors, ods, ocs⟩, ⟨rst, cp, of⟩, kys, rank, num⟩ : Snd) = s := ⟨_, rfl⟩
  have hRF2 : RF = ((decide (1 ≤ ods.length) && decide (ods.length ≤ 8) && decide (ocs.length ≤ 40) && decide (rst.length = ods.length) && decide (kys.length = ods.length)) && (decide (cp >>> ocs.length = 0) && decide (of >>> ods.length = 0)) && ors.all rkOk && allI (dvOk SS) ods && ocs.all (cpOk ods.length) && pipeOk SS) := by rw [← hRF, ← hSS]; rfl
  obtain ⟨nr, hnr⟩ : ∃ n, ors.length = n := ⟨_, rfl⟩
  obtain ⟨nd, hnd⟩ : ∃ n, ods.length = n := ⟨_, rfl⟩
  obtain ⟨nc, hnc⟩ : ∃ n, ocs.length = n := ⟨_, rfl⟩
  obtain ⟨ns, hns⟩ : ∃ n, rst.length = n := ⟨_, rfl⟩
  obtain ⟨nk, hnk⟩ : ∃ n, kys.length = n := ⟨_, rfl⟩
  rw [hnd, hnc, hns, hnk] at hRF2
  rw [hnr] at hrl9
  rw [hnd] at hdl9
  rw [hnc] at hcl9
  rw [hnr, hnd, hnc, hns, hnk]
  have HNR := Lib.hid hnr
  have HND := Lib.hid hnd
  have HNC := Lib.hid hnc
  have HNS := Lib.hid hns
  have HNK := Lib.hid hnk
  have HSS := Lib.hid hSS
  have HR := Lib.hid hR
  have HD := Lib.hid hD
  have HC := Lib.hid hC
  have HST := Lib.hid hS
  have HKY := Lib.hid hK
  have HN1 := Lib.hid hn1
  have HN2 := Lib.hid hn2
  clear hRF hnr hnd hnc hns hnk hSS hR hD hC hS hK hn1 hn2 hkl
  obtain ⟨w1, hw1⟩ : ∃ w1 : World, w.alloc (.cells #[.string on, .slice Ar nr cr, .slice Ad nd cd, .slice Ac nc cc, .slice As ns cs, .int .u64 (cp : Int), .int .u64 (of : Int), .slice Ak nk ck, .int .i64 rank, .int .i64 num] 50) = w1 := ⟨_, rfl⟩
  obtain ⟨b, hb⟩ : ∃ b, w.heap.size = b := ⟨_, rfl⟩
  have C1 : Blk w1 b 50 #[.string on, .slice Ar nr cr, .slice Ad nd cd, .slice Ac nc cc, .slice As ns cs, .int .u64 (cp : Int), .int .u64 (of : Int), .slice Ak nk ck, .int .i64 rank, .int .i64 num] := by rw [← hw1, ← hb]; exact Blk.new _ _ _
  have HB1 : Hid (Below w.heap.size w w1) := Lib.hid (by rw [← hw1]; exact Ba (B0 w) _)
  have HCB := Lib.hid C1
  have HS := Lib.hid (fun W (hb : Below w1.heap.size w1 W) => (show (W.cell? ⟨b, 0, none⟩ = some (.string on) ∧ W.cell? ⟨b, 1, none⟩ = some (.slice Ar nr cr) ∧ W.cell? ⟨b, 2, none⟩ = some (.slice Ad nd cd) ∧ W.cell? ⟨b, 3, none⟩ = some (.slice Ac nc cc)) ∧ W.cell? ⟨b, 4, none⟩ = some (.slice As ns cs) ∧ W.cell? ⟨b, 5, none⟩ = some (.int .u64 (cp : Int)) ∧ W.cell? ⟨b, 6, none⟩ = some (.int .u64 (of : Int)) from
    ⟨⟨(Bc hb C1.lt).trans (C1.cell 0), (Bc hb C1.lt).trans (C1.cell 1), (Bc hb C1.lt).trans (C1.cell 2), (Bc hb C1.lt).trans (C1.cell 3)⟩, (Bc hb C1.lt).trans (C1.cell 4), (Bc hb C1.lt).trans (C1.cell 5), (Bc hb C1.lt).trans (C1.cell 6)⟩))
  have HW1 := Lib.hid hw1
  have HBB := Lib.hid hb
  have hBB : ∀ (L : Nat → Bool) (i : Nat) (w w' : World), Below w.heap.size w w' → Below w1.heap.size w1 w → Below w1.heap.size w1 w' := fun _ _ _ _ h1 h2 => Bt h2 h1
  clear hw1 hb C1
  go_enter Tryz.func10, Tryz.ntmps10
  go_upto_region 1 with fail
  rw [HW1.out, HBB.out]
  refine region_blocks (by kernel_rfl) ?_
  refine from_lawW 8 ER1 (fun _ W => Below w1.heap.size w1 W) (FR1 b on Ar Ad Ac As nr cr nd cd nc cc ns cs cp of w1.heap.size) VR1 (by kernel_rfl) rfl (FR1_V _ _ _ _ _ _ _ _ _ _ _ _ _ _ _ _ _) (by kernel_rfl) (by kernel_rfl) ((B0 w1).drew) ⟨?_, ?_, ?_, ?_, ?_, ?_, ?_, ?_, trivial⟩ ?_
  · refine OpFactW.value rfl (FR1_below _ _ _ _ _ _ _ _ _ _ _ _ _ _ _ _ _) hBB fun L a w2 hl hf D hb => ?_
    have h0 : sl a 1 = .pointer (some ⟨b, 0, none⟩) := hf 1 (by kernel_rfl)
    refine ⟨.pointer (some ⟨b, 0, none⟩), w2, ?_, B0 _, fun s _ h => h 15 rfl⟩
    unfold sl at h0
    simp at h0
    simp [go_sem, h0]
  · refine OpFactW.value rfl (FR1_below _ _ _ _ _ _ _ _ _ _ _ _ _ _ _ _ _) hBB fun L a w2 hl hf D hb => ?_
    have h0 : sl a 15 = .pointer (some ⟨b, 0, none⟩) := D 0 (by kernel_rfl)
    have es := HS.out w2 hb
    refine ⟨.agg #[.string on, .slice Ar nr cr, .slice Ad nd cd, .slice Ac nc cc], w2, ?_, B0 _, fun s _ h => h 16 rfl⟩
    unfold sl at h0
    simp at h0
    simp [go_sem, h0, es]
  · refine OpFactW.value rfl (FR1_below _ _ _ _ _ _ _ _ _ _ _ _ _ _ _ _ _) hBB fun L a w2 hl hf D hb => ?_
    have h0 : sl a 1 = .pointer (some ⟨b, 0, none⟩) := hf 1 (by kernel_rfl)
    refine ⟨.pointer (some ⟨b, 4, none⟩), w2, ?_, B0 _, fun s _ h => h 17 rfl⟩
    unfold sl at h0
    simp at h0
    simp [go_sem, h0]
  · refine OpFactW.value rfl (FR1_below _ _ _ _ _ _ _ _ _ _ _ _ _ _ _ _ _) hBB fun L a w2 hl hf D hb => ?_
    have h0 : sl a 17 = .pointer (some ⟨b, 4, none⟩) := D 2 (by kernel_rfl)
    have es := HS.out w2 hb
    refine ⟨.agg #[.slice As ns cs, .int .u64 (cp : Int), .int .u64 (of : Int)], w2, ?_, B0 _, fun s _ h => h 18 rfl⟩
    unfold sl at h0
    simp at h0
    simp [go_sem, h0, es]
  · refine OpFactW.value rfl (FR1_below _ _ _ _ _ _ _ _ _ _ _ _ _ _ _ _ _) hBB fun L a w2 hl hf D hb => ?_
    refine ⟨.pointer (some ⟨w2.heap.size, 0, none⟩), w2.alloc (.cells org0 40), ?_, Ba (B0 w2) _, fun s _ h => ⟨_, _, h 3 rfl, Below.size hb, Blk.new _ _ _, rfl⟩⟩
    unfold org0
    simp [go_sem]
  · refine OpFactW.value rfl (FR1_below _ _ _ _ _ _ _ _ _ _ _ _ _ _ _ _ _) hBB fun L a w2 hl hf D hb => ?_
    refine ⟨.pointer (some ⟨w2.heap.size, 0, none⟩), w2.alloc (.cells reg0 44), ?_, Ba (B0 w2) _, fun s _ h => ⟨_, _, h 4 rfl, Below.size hb, Blk.new _ _ _, rfl⟩⟩
    unfold reg0
    simp [go_sem]
  · refine OpFactW.skip rfl fun L a w2 hl hf D hb => ?_
    obtain ⟨g, cs0, h11, hg, hk, hz⟩ : anyP 40 w2 (sl a 3) _ 4 := D 4 (by kernel_rfl)
    obtain ⟨x0, x1, x2, x3, rfl⟩ := arr4 cs0 hz
    have h12 : sl a 16 = .agg #[.string on, .slice Ar nr cr, .slice Ad nd cd, .slice Ac nc cc] := D 1 (by kernel_rfl)
    have f0 := hk.frozen
    have ff0 := f0 0
    have cc0 : w2.cell? ⟨g, 0, none⟩ = some x0 := hk.cell 0
    have ff1 := f0 1
    have cc1 : w2.cell? ⟨g, 1, none⟩ = some x1 := hk.cell 1
    have ff2 := f0 2
    have cc2 : w2.cell? ⟨g, 2, none⟩ = some x2 := hk.cell 2
    have ff3 := f0 3
    have cc3 : w2.cell? ⟨g, 3, none⟩ = some x3 := hk.cell 3
    obtain ⟨w', hw'⟩ : ∃ w' : World, ((((w2.setCell ⟨g, 0, none⟩ (.string on)).setCell ⟨g, 1, none⟩ (.slice Ar nr cr)).setCell ⟨g, 2, none⟩ (.slice Ad nd cd)).setCell ⟨g, 3, none⟩ (.slice Ac nc cc)) = w' := ⟨_, rfl⟩
    have hq : Blk w' g 40 #[.string on, .slice Ar nr cr, .slice Ad nd cd, .slice Ac nc cc] := by
      rw [← hw']
      have q := ((((hk.set_ 0 (.string on)).set_ 1 (.slice Ar nr cr)).set_ 2 (.slice Ad nd cd)).set_ 3 (.slice Ac nc cc))
      simpa using q
    have hbq : Below w1.heap.size w1 w' := by rw [← hw']; exact (Bs (Bs (Bs (Bs hb _ hg) _ hg) _ hg) _ hg)
    have hfar : ∀ (g2 : Nat) (t2 : TypeId) (cs2 : Array Value), Blk w2 g2 t2 cs2 → t2 ≠ 40 → Blk w' g2 t2 cs2 := fun g2 t2 cs2 k2 ht => by
      rw [← hw']
      exact ((((k2.far (k2.ne_ hk ht) _).far (k2.ne_ hk ht) _).far (k2.ne_ hk ht) _).far (k2.ne_ hk ht) _)
    refine ⟨w', ?_, hbq, fun j hj hE hFj => ?_, fun s h => ⟨g, by rw [h 3 (by decide)]; exact h11, hg, hq⟩⟩
    · unfold sl at h11 h12
      simp at h11 h12
      rw [← hw']
      simp [go_sem, h11, h12, ff0, cc0, ff1, cc1, ff2, cc2, ff3, cc3]
    · clear hw'
      match j with
      | 0 =>
        exact hFj
      | 1 =>
        exact hFj
      | 2 =>
        exact hFj
      | 3 =>
        exact hFj
      | 4 =>
        exact ⟨g, _, h11, hg, hq, rfl⟩
      | 5 =>
        obtain ⟨g2, cs2, e2, l2, k2, z2⟩ := hFj
        exact ⟨g2, cs2, e2, l2, hfar _ _ _ k2 (by decide), z2⟩
      | 6 =>
        exact absurd rfl hj
      | 7 =>
        obtain ⟨g2, e2, l2, k2⟩ := hFj
        exact ⟨g2, e2, l2, hfar _ _ _ k2 (by decide)⟩
      | _ + 8 => trivial
  · refine OpFactW.skip rfl fun L a w2 hl hf D hb => ?_
    obtain ⟨g, cs0, h11, hg, hk, hz⟩ : anyP 44 w2 (sl a 4) _ 3 := D 5 (by kernel_rfl)
    obtain ⟨x0, x1, x2, rfl⟩ := arr3 cs0 hz
    have h12 : sl a 18 = .agg #[.slice As ns cs, .int .u64 (cp : Int), .int .u64 (of : Int)] := D 3 (by kernel_rfl)
    have f0 := hk.frozen
    have ff0 := f0 0
    have cc0 : w2.cell? ⟨g, 0, none⟩ = some x0 := hk.cell 0
    have ff1 := f0 1
    have cc1 : w2.cell? ⟨g, 1, none⟩ = some x1 := hk.cell 1
    have ff2 := f0 2
    have cc2 : w2.cell? ⟨g, 2, none⟩ = some x2 := hk.cell 2
    obtain ⟨w', hw'⟩ : ∃ w' : World, (((w2.setCell ⟨g, 0, none⟩ (.slice As ns cs)).setCell ⟨g, 1, none⟩ (.int .u64 (cp : Int))).setCell ⟨g, 2, none⟩ (.int .u64 (of : Int))) = w' := ⟨_, rfl⟩
    have hq : Blk w' g 44 #[.slice As ns cs, .int .u64 (cp : Int), .int .u64 (of : Int)] := by
      rw [← hw']
      have q := (((hk.set_ 0 (.slice As ns cs)).set_ 1 (.int .u64 (cp : Int))).set_ 2 (.int .u64 (of : Int)))
      simpa using q
    have hbq : Below w1.heap.size w1 w' := by rw [← hw']; exact (Bs (Bs (Bs hb _ hg) _ hg) _ hg)
    have hfar : ∀ (g2 : Nat) (t2 : TypeId) (cs2 : Array Value), Blk w2 g2 t2 cs2 → t2 ≠ 44 → Blk w' g2 t2 cs2 := fun g2 t2 cs2 k2 ht => by
      rw [← hw']
      exact (((k2.far (k2.ne_ hk ht) _).far (k2.ne_ hk ht) _).far (k2.ne_ hk ht) _)
    refine ⟨w', ?_, hbq, fun j hj hE hFj => ?_, fun s h => ⟨g, by rw [h 4 (by decide)]; exact h11, hg, hq⟩⟩
    · unfold sl at h11 h12
      simp at h11 h12
      rw [← hw']
      simp [go_sem, h11, h12, ff0, cc0, ff1, cc1, ff2, cc2]
    · clear hw'
      match j with
      | 0 =>
        exact hFj
      | 1 =>
        exact hFj
      | 2 =>
        exact hFj
      | 3 =>
        exact hFj
      | 4 =>
        obtain ⟨g2, cs2, e2, l2, k2, z2⟩ := hFj
        exact ⟨g2, cs2, e2, l2, hfar _ _ _ k2 (by decide), z2⟩
      | 5 =>
        exact ⟨g, _, h11, hg, hq, rfl⟩
      | 6 =>
        obtain ⟨g2, e2, l2, k2⟩ := hFj
        exact ⟨g2, e2, l2, hfar _ _ _ k2 (by decide)⟩
      | 7 =>
        exact absurd rfl hj
      | _ + 8 => trivial
  intro L9 y9 w9 hb9 hF9
  obtain ⟨ob, e3, hob, hKO⟩ : blkP 40 w9 (y9 3) w1.heap.size #[.string on, .slice Ar nr cr, .slice Ad nd cd, .slice Ac nc cc] := hF9 6 (by decide) rfl
  obtain ⟨rb, e4, hrb, hKR⟩ : blkP 44 w9 (y9 4) w1.heap.size #[.slice As ns cs, .int .u64 (cp : Int), .int .u64 (of : Int)] := hF9 7 (by decide) rfl
  have HB2 := Lib.hid (show Below w1.heap.size w1 w9 from hb9)
  clear hF9 hb9 HS
  rw [aft6 (d0 := 15) (d1 := 16) (d2 := 17) (d3 := 18) (d4 := 3) (d5 := 4) (by kernel_rfl) rfl]
  rw [e3, e4]
  simp only [List.set_cons_succ, List.set_cons_zero]
  refine from_end rfl ?_
  obtain ⟨w2, rfl⟩ : ∃ W : World, W = w9 := ⟨w9, rfl⟩
  have HKO := Lib.hid hKO
  have HKR := Lib.hid hKR
  have HCL := Lib.hid (fun W (hb : Below w2.heap.size w2 W) => (show (W.cell? ⟨ob, 0, none⟩ = some (.string on) ∧ W.cell? ⟨ob, 1, none⟩ = some (.slice Ar nr cr) ∧ W.cell? ⟨ob, 2, none⟩ = some (.slice Ad nd cd) ∧ W.cell? ⟨ob, 3, none⟩ = some (.slice Ac nc cc)) ∧ (W.cell? ⟨rb, 0, none⟩ = some (.slice As ns cs) ∧ W.cell? ⟨rb, 1, none⟩ = some (.int .u64 (cp : Int)) ∧ W.cell? ⟨rb, 2, none⟩ = some (.int .u64 (of : Int))) ∧ W.cell? ⟨b, 7, none⟩ = some (.slice Ak nk ck) ∧ W.cell? ⟨b, 8, none⟩ = some (.int .i64 rank) ∧ W.cell? ⟨b, 9, none⟩ = some (.int .i64 num) from by
    have h1 := HKO.out.below hb HKO.out.lt
    have h2 := HKR.out.below hb HKR.out.lt
    have h3 := HCB.out.below (Bt HB2.out hb) HCB.out.lt
    exact ⟨⟨h1.cell 0, h1.cell 1, h1.cell 2, h1.cell 3⟩, ⟨h2.cell 0, h2.cell 1, h2.cell 2⟩, h3.cell 7, h3.cell 8, h3.cell 9⟩))
  clear hKO hKR
  obtain ⟨⟨p0, p1, p2, p3⟩, ⟨r0, r1, r2⟩, t7, t8, t9⟩ := HCL.out w2 (B0 w2)
  go_upto_region 3 with fail
  by_cases c1 : 1 ≤ nd ∧ nd ≤ 8
  rotate_left
  · have hRF3 : RF = false := by rw [hRF2]; simp; omega
    have hR1 : (decide ((1 : Int) ≤ (nd : Int)) && decide ((nd : Int) ≤ 8)) = false := by simp; omega
    have HWH := Lib.hid (fun b W hc hb => within_one 1 8 (nd : Int) b W hc hb)
    rw [hR1] at HWH
    have HRF := Lib.hid hRF3
    clear hRF2 hRF3 hR1
    clear p0 p1 p2 p3 r0 r1 r2 t7 t8 t9
    go_wp2_with (go_at_call 21; (with_reducible refine ((HWH.out w2.heap.size _ (by simp [go_sem]) (by simp)).mono ?_)); rintro e w3 ⟨rfl, hb3⟩; have HB3 := Lib.hid (Bt (Ba (B0 w2) (.cells #[.int .i64 (nd : Int)] 3)) hb3); (obtain ⟨⟨p0, p1, p2, p3⟩, ⟨r0, r1, r2⟩, t7, t8, t9⟩ := HCL.out w3 HB3.out); clear hb3)
    go_ret
    exact ⟨by rw [HRF.out]; rfl, Bt HB1.out (Bt HB2.out HB3.out)⟩
  by_cases c2 : nc ≤ 40
  rotate_left
  · have hRF3 : RF = false := by rw [hRF2]; simp [c2]
    have hR1 : (decide ((1 : Int) ≤ (nd : Int)) && decide ((nd : Int) ≤ 8)) = true := by simp; omega
    have HWH := Lib.hid (fun b W hc hb => within_one 1 8 (nd : Int) b W hc hb)
    rw [hR1] at HWH
    have HRF := Lib.hid hRF3
    have c2I : (40 : Int) < (nc : Int) := by omega
    have c2N : 40 < nc := by omega
    have c2J : ¬ (nc : Int) ≤ 40 := by omega
    clear hRF2 hRF3 hR1
    clear p0 p1 p2 p3 r0 r1 r2 t7 t8 t9
    go_wp2_with (go_at_call 21; (with_reducible refine ((HWH.out w2.heap.size _ (by simp [go_sem]) (by simp)).mono ?_)); rintro e w3 ⟨rfl, hb3⟩; have HB3 := Lib.hid (Bt (Ba (B0 w2) (.cells #[.int .i64 (nd : Int)] 3)) hb3); (obtain ⟨⟨p0, p1, p2, p3⟩, ⟨r0, r1, r2⟩, t7, t8, t9⟩ := HCL.out w3 HB3.out); clear hb3)
    go_ret
    exact ⟨by rw [HRF.out]; rfl, Bt HB1.out (Bt HB2.out HB3.out)⟩
  by_cases c3 : ns = nd
  rotate_left
  · have hRF3 : RF = false := by rw [hRF2]; simp [c3]
    have hR1 : (decide ((1 : Int) ≤ (nd : Int)) && decide ((nd : Int) ≤ 8)) = true := by simp; omega
    have HWH := Lib.hid (fun b W hc hb => within_one 1 8 (nd : Int) b W hc hb)
    rw [hR1] at HWH
    have HRF := Lib.hid hRF3
    have c2I : ¬ (40 : Int) < (nc : Int) := by omega
    have m5 : min nc 64 = nc := by omega
    have c2N : ¬ 40 < nc := by omega
    have c2J : (nc : Int) ≤ 40 := by omega
    have c3I : ¬ (ns : Int) = (nd : Int) := by omega
    have c3B : ((ns : Int) == (nd : Int)) = false := by simp; omega
    clear hRF2 hRF3 hR1
    clear p0 p1 p2 p3 r0 r1 r2 t7 t8 t9
    go_wp2_with (go_at_call 21; (with_reducible refine ((HWH.out w2.heap.size _ (by simp [go_sem]) (by simp)).mono ?_)); rintro e w3 ⟨rfl, hb3⟩; have HB3 := Lib.hid (Bt (Ba (B0 w2) (.cells #[.int .i64 (nd : Int)] 3)) hb3); (obtain ⟨⟨p0, p1, p2, p3⟩, ⟨r0, r1, r2⟩, t7, t8, t9⟩ := HCL.out w3 HB3.out); clear hb3)
    go_ret
    exact ⟨by rw [HRF.out]; rfl, Bt HB1.out (Bt HB2.out HB3.out)⟩
  by_cases c4 : nk = nd
  rotate_left
  · have hRF3 : RF = false := by rw [hRF2]; simp [c4]
    have hR1 : (decide ((1 : Int) ≤ (nd : Int)) && decide ((nd : Int) ≤ 8)) = true := by simp; omega
    have HWH := Lib.hid (fun b W hc hb => within_one 1 8 (nd : Int) b W hc hb)
    rw [hR1] at HWH
    have HRF := Lib.hid hRF3
    have c2I : ¬ (40 : Int) < (nc : Int) := by omega
    have m5 : min nc 64 = nc := by omega
    have c2N : ¬ 40 < nc := by omega
    have c2J : (nc : Int) ≤ 40 := by omega
    have c3I : (ns : Int) = (nd : Int) := by omega
    have c4I : ¬ (nk : Int) = (nd : Int) := by omega
    have c4B : ((nk : Int) == (nd : Int)) = false := by simp; omega
    clear hRF2 hRF3 hR1
    clear p0 p1 p2 p3 r0 r1 r2 t7 t8 t9
    go_wp2_with (go_at_call 21; (with_reducible refine ((HWH.out w2.heap.size _ (by simp [go_sem]) (by simp)).mono ?_)); rintro e w3 ⟨rfl, hb3⟩; have HB3 := Lib.hid (Bt (Ba (B0 w2) (.cells #[.int .i64 (nd : Int)] 3)) hb3); (obtain ⟨⟨p0, p1, p2, p3⟩, ⟨r0, r1, r2⟩, t7, t8, t9⟩ := HCL.out w3 HB3.out); clear hb3)
    go_ret
    exact ⟨by rw [HRF.out]; rfl, Bt HB1.out (Bt HB2.out HB3.out)⟩
  by_cases c5 : cp >>> nc = 0
  rotate_left
  · have hRF3 : RF = false := by rw [hRF2]; simp [c5]
    have hR1 : (decide ((1 : Int) ≤ (nd : Int)) && decide ((nd : Int) ≤ 8)) = true := by simp; omega
    have HWH := Lib.hid (fun b W hc hb => within_one 1 8 (nd : Int) b W hc hb)
    rw [hR1] at HWH
    have HRF := Lib.hid hRF3
    have c2I : ¬ (40 : Int) < (nc : Int) := by omega
    have m5 : min nc 64 = nc := by omega
    have c2N : ¬ 40 < nc := by omega
    have c2J : (nc : Int) ≤ 40 := by omega
    have c3I : (ns : Int) = (nd : Int) := by omega
    have c4I : (nk : Int) = (nd : Int) := by omega
    have s5 := shr_ofO cp nc (by omega)
    obtain ⟨v5, hv5⟩ : ∃ v, cp >>> nc = v := ⟨_, rfl⟩
    rw [hv5] at c5 s5
    have c5I : ¬ (v5 : Int) = 0 := by omega
    have c5B : ((v5 : Int) == 0) = false := by simp; omega
    clear hRF2 hRF3 hR1
    clear p0 p1 p2 p3 r0 r1 r2 t7 t8 t9
    go_wp2_with (go_at_call 21; (with_reducible refine ((HWH.out w2.heap.size _ (by simp [go_sem]) (by simp)).mono ?_)); rintro e w3 ⟨rfl, hb3⟩; have HB3 := Lib.hid (Bt (Ba (B0 w2) (.cells #[.int .i64 (nd : Int)] 3)) hb3); (obtain ⟨⟨p0, p1, p2, p3⟩, ⟨r0, r1, r2⟩, t7, t8, t9⟩ := HCL.out w3 HB3.out); clear hb3)
    go_ret
    exact ⟨by rw [HRF.out]; rfl, Bt HB1.out (Bt HB2.out HB3.out)⟩
  by_cases c6 : of >>> nd = 0
  rotate_left
  · have hRF3 : RF = false := by rw [hRF2]; simp [c6]
    have hR1 : (decide ((1 : Int) ≤ (nd : Int)) && decide ((nd : Int) ≤ 8)) = true := by simp; omega
    have HWH := Lib.hid (fun b W hc hb => within_one 1 8 (nd : Int) b W hc hb)
    rw [hR1] at HWH
    have HRF := Lib.hid hRF3
    have c2I : ¬ (40 : Int) < (nc : Int) := by omega
    have m5 : min nc 64 = nc := by omega
    have c2N : ¬ 40 < nc := by omega
    have c2J : (nc : Int) ≤ 40 := by omega
    have c3I : (ns : Int) = (nd : Int) := by omega
    have c4I : (nk : Int) = (nd : Int) := by omega
    have s5 := shr_ofO cp nc (by omega)
    obtain ⟨v5, hv5⟩ : ∃ v, cp >>> nc = v := ⟨_, rfl⟩
    rw [hv5] at c5 s5
    subst c5
    have m6 : min nd 64 = nd := by omega
    have s6 := shr_ofO of nd (by omega)
    obtain ⟨v6, hv6⟩ : ∃ v, of >>> nd = v := ⟨_, rfl⟩
    rw [hv6] at c6 s6
    have c6I : ¬ (v6 : Int) = 0 := by omega
    have c6B : ((v6 : Int) == 0) = false := by simp; omega
    clear hRF2 hRF3 hR1
    clear p0 p1 p2 p3 r0 r1 r2 t7 t8 t9
    go_wp2_with (go_at_call 21; (with_reducible refine ((HWH.out w2.heap.size _ (by simp [go_sem]) (by simp)).mono ?_)); rintro e w3 ⟨rfl, hb3⟩; have HB3 := Lib.hid (Bt (Ba (B0 w2) (.cells #[.int .i64 (nd : Int)] 3)) hb3); (obtain ⟨⟨p0, p1, p2, p3⟩, ⟨r0, r1, r2⟩, t7, t8, t9⟩ := HCL.out w3 HB3.out); clear hb3)
    go_ret
    exact ⟨by rw [HRF.out]; rfl, Bt HB1.out (Bt HB2.out HB3.out)⟩
  obtain ⟨c11, c12⟩ := c1
  have hR1 : (decide ((1 : Int) ≤ (nd : Int)) && decide ((nd : Int) ≤ 8)) = true := by simp; omega
  have HWH := Lib.hid (fun b W hc hb => within_one 1 8 (nd : Int) b W hc hb)
  rw [hR1] at HWH
  have hRF3 : RF = (ors.all rkOk && allI (dvOk SS) ods && ocs.all (cpOk nd) && pipeOk SS) := by rw [hRF2]; simp [c11, c12, c2, c3, c4, c5, c6]
  have HRF := Lib.hid hRF3
  have c2I : ¬ (40 : Int) < (nc : Int) := by omega
  have c2N : ¬ 40 < nc := by omega
  have c2J : (nc : Int) ≤ 40 := by omega
  have m5 : min nc 64 = nc := by omega
  have m6 : min nd 64 = nd := by omega
  have c3I : (ns : Int) = (nd : Int) := by omega
  have c4I : (nk : Int) = (nd : Int) := by omega
  have s5 := shr_ofO cp nc (by omega)
  have s6 := shr_ofO of nd (by omega)
  rw [c5] at s5
  rw [c6] at s6
  clear hRF2 hRF3 hR1 c5 c6
  clear p0 p1 p2 p3 r0 r1 r2 t7 t8 t9
  go_upto_region 6 with (go_at_call 21; (with_reducible refine ((HWH.out w2.heap.size _ (by simp [go_sem]) (by simp)).mono ?_)); rintro e w3 ⟨rfl, hb3⟩; have HB3 := Lib.hid (Bt (Ba (B0 w2) (.cells #[.int .i64 (nd : Int)] 3)) hb3); (obtain ⟨⟨p0, p1, p2, p3⟩, ⟨r0, r1, r2⟩, t7, t8, t9⟩ := HCL.out w3 HB3.out); clear hb3)
  clear s5 s6 m5 m6 c2I c2N c2J c3I c4I p0 p1 p2 p3 r0 r1 r2 t7 t8 t9
  go_loopg [65] nr (fun gg s65 wr => ∃ (k : Nat), k ≤ nr ∧ nr - k ≤ gg ∧ s65 = .int .i64 (k : Int) ∧ Aside (∀ j (h : j < ors.length), j < k → rkOk ors[j] = true) ∧ Aside (Below w2.heap.size w2 wr))
  case atStart => exact ⟨0, by omega, by omega, rfl, (fun j _ h => absurd h (by omega)), HB3.out⟩
  case round =>
    obtain ⟨k, hk, hg, rfl, hA, hBr⟩ := hrel
    replace hA : ∀ j (h : j < ors.length), j < k → rkOk ors[j] = true := hA
    replace hBr : Below w2.heap.size w2 wr := hBr
    obtain ⟨⟨p0, p1, p2, p3⟩, ⟨r0, r1, r2⟩, t7, t8, t9⟩ := HCL.out wr hBr
    have HA := Lib.hid hA
    have HBR := Lib.hid hBr
    by_cases hlt : k < nr
    · have hkI : (k : Int) < (nr : Int) := by omega
      have hkd : decide ((k : Int) < (nr : Int)) = true := decide_eq_true hkI
      have hkl : k < ors.length := by rw [HNR.out]; exact hlt
      obtain ⟨A', c', e', -, -, hat⟩ := Sl.openF HR.out
      rw [HNR.out] at e'
      injection e' with e1 e2 e3
      obtain ⟨ad, cse, eA, hFa, -, ⟨vw, rfl, hwd⟩, hfl⟩ := hat k hkl
      have eA' : Ar = some ad := by rw [e1]; exact eA
      clear e1 e2 e3 eA hat
      subst eA'
      obtain ⟨Aw, cw, rfl, -⟩ := Sl.openF hwd
      have hfl2 := hfl.below (Bt HB1.out (Bt HB2.out hBr)) (by rw [block_of_add]; exact hF _ hFa)
      obtain ⟨p, hpA⟩ : ∃ p, ad.add (k * 6) = p := ⟨_, rfl⟩
      rw [hpA] at hfl2
      have q0 := hfl2.f0 rfl
      have q1 := hfl2.fs 0 rfl
      have q2 := hfl2.fs 1 rfl
      have q3 := hfl2.fs 2 rfl
      have q4 := hfl2.fs 3 rfl
      have q5 := hfl2.fs 4 rfl
      obtain ⟨nw, hnw⟩ : ∃ n, ors[k].wind.length = n := ⟨_, rfl⟩
      rw [hnw] at q5
      obtain ⟨⟨rn, rt, rnm, rdn, rfs, rwd⟩, hrk⟩ : ∃ r, ors[k] = r := ⟨_, rfl⟩
      rw [hrk] at q0 q1 q2 q3 q4
      dsimp only at q0 q1 q2 q3 q4
      have hWR := fun b W hc hb => within_one (-1000) 1000 rfs b W hc hb
      obtain ⟨R, hR⟩ : ∃ R, (decide (-1000 ≤ rfs) && decide (rfs ≤ 1000)) = R := ⟨_, rfl⟩
      rw [hR] at hWR
      have HKR : Hid (rkOk ors[k] = R) := Lib.hid (by rw [hrk]; exact hR)
      have HWR := Lib.hid hWR
      clear hA hBr hwd hfl hfl2 hWR hR hrk hnw hFa
      cases R with
      | false =>
        have hRF4 : RF = false := by rw [HRF.out, all_falseO k hkl HKR.out]; simp
        have HRF4 := Lib.hid hRF4
        clear hRF4
        go_wp2_with (go_at_call 21; (with_reducible refine ((HWR.out _ _ (by simp [go_sem]) (by simp)).mono ?_)); rintro e w4 ⟨rfl, hb4⟩; have HB4 := Lib.hid (Bt (Ba (Ba HBR.out _) _) hb4); clear hb4)
        go_ret
        exact ⟨by rw [HRF4.out]; rfl, Bt HB1.out (Bt HB2.out HB4.out)⟩
      | true =>
        go_wp2_with (go_at_call 21; (with_reducible refine ((HWR.out _ _ (by simp [go_sem]) (by simp)).mono ?_)); rintro e w4 ⟨rfl, hb4⟩; have HB4 := Lib.hid (Bt (Ba (Ba HBR.out _) _) hb4); clear hb4)
        go_roundg (nr - (k + 1))
        case measure => omega
        case rel =>
          exact ⟨k + 1, by omega, by omega, by go_num, (fun j h hj => by
            by_cases e : j = k
            · subst e; exact HKR.out
            · exact HA.out j h (by omega)), HB4.out⟩
    · obtain rfl : nr = k := by omega
      have hkd : decide ((nr : Int) < (nr : Int)) = false := decide_eq_false (by omega)
      have hRF4 : RF = (allI (dvOk SS) ods && ocs.all (cpOk nd) && pipeOk SS) := by
        rw [HRF.out, all_trueO fun j h => hA j h (by rw [← HNR.out]; exact h), Bool.true_and]
      have HRF2 := Lib.hid hRF4
      clear hRF4 HRF hA hBr HA
      go_upto_region 12 with fail
      obtain ⟨wA, rfl⟩ : ∃ W : World, W = wr := ⟨wr, rfl⟩
      have HBA := HBR
      clear HBR p0 p1 p2 p3 r0 r1 r2 t7 t8 t9
      go_loopg [78] nd (fun gg s78 wr => ∃ (k : Nat), k ≤ nd ∧ nd - k ≤ gg ∧ s78 = .int .i64 (k : Int) ∧ Aside (∀ j (h : j < ods.length), j < k → dvOk SS j ods[j] = true) ∧ Aside (Below w2.heap.size w2 wr))
      case atStart => exact ⟨0, by omega, by omega, rfl, (fun j _ h => absurd h (by omega)), HBA.out⟩
      case round =>
        obtain ⟨k, hk, hg, rfl, hA, hBr⟩ := hrel
        replace hA : ∀ j (h : j < ods.length), j < k → dvOk SS j ods[j] = true := hA
        replace hBr : Below w2.heap.size w2 wr := hBr
        have HA := Lib.hid hA
        have HBR := Lib.hid hBr
        by_cases hlt : k < nd
        · have hkI : (k : Int) < (nd : Int) := by omega
          have hkd : decide ((k : Int) < (nd : Int)) = true := decide_eq_true hkI
          have hkl : k < ods.length := by rw [HND.out]; exact hlt
          have hB0 : Below w.heap.size w wr := Bt HB1.out (Bt HB2.out hBr)
          obtain ⟨A', c', e', -, -, hat⟩ := Sl.openF HD.out
          rw [HND.out] at e'
          injection e' with e1 e2 e3
          obtain ⟨ad, cse, eA, hFa, -, ⟨vt, rfl, hst⟩, hfl⟩ := hat k hkl
          have eA' : Ad = some ad := by rw [e1]; exact eA
          clear e1 e2 e3 eA hat
          obtain ⟨At, ct, rfl, -, hls9, -⟩ := Sl.openF hst
          have hfl2 := hfl.below hB0 (by rw [block_of_add]; exact hF _ hFa)
          obtain ⟨p5, hp5⟩ : ∃ p, ad.add (k * 5) = p := ⟨_, rfl⟩
          rw [hp5] at hfl2
          -- the keys and the word of the division
          have hkk : k < kys.length := by rw [HNK.out]; omega
          have hks : k < rst.length := by rw [HNS.out]; omega
          obtain ⟨Ak', ck', ek, -, -, hatk⟩ := Sl.openF HKY.out
          injection ek with ek1 ek2 ek3
          obtain ⟨adk, cskk, eAk, hFk, -, ekk, hflk⟩ := hatk k hkk
          have eAk' : Ak = some adk := by rw [ek1]; exact eAk
          rw [show cskk = _ from ekk] at hflk
          have hflk2 := hflk.below hB0 (by rw [block_of_add]; exact hF _ hFk)
          obtain ⟨p, hpA⟩ : ∃ p, adk.add (k * 2) = p := ⟨_, rfl⟩
          rw [hpA] at hflk2
          obtain ⟨As', cs', es, -, -, hats⟩ := Sl.openF HST.out
          injection es with es1 es2 es3
          obtain ⟨ads, csss, eAs, hFs, -, ess, hfls⟩ := hats k hks
          have eAs' : As = some ads := by rw [es1]; exact eAs
          rw [show csss = _ from ess] at hfls
          have hfls2 := hfls.below hB0 (by rw [block_of_add]; exact hF _ hFs)
          obtain ⟨q, hqA⟩ : ∃ q, ads.add (k * 1) = q := ⟨_, rfl⟩
          rw [hqA] at hfls2
          have hpb : p.block < wr.heap.size := by rw [← hpA, block_of_add]; exact Nat.lt_of_lt_of_le (hF _ hFk) hB0.size
          have hqb : q.block < wr.heap.size := by rw [← hqA, block_of_add]; exact Nat.lt_of_lt_of_le (hF _ hFs) hB0.size
          have hx128 : kys[k] < 2 ^ 128 := HN1.out _ (List.getElem_mem hkk)
          obtain ⟨x, hx⟩ : ∃ x, kys[k] = x := ⟨_, rfl⟩
          obtain ⟨v, hv⟩ : ∃ v, rst[k] = v := ⟨_, rfl⟩
          rw [hx] at hflk2 hx128
          rw [hv] at hfls2
          obtain ⟨⟨dn, dp, lo, hi, sts⟩, hdk⟩ : ∃ d, ods[k] = d := ⟨_, rfl⟩
          rw [hdk] at hfl2 hst hls9
          dsimp only at hfl2 hst hls9
          obtain ⟨ls, hls⟩ : ∃ n, sts.length = n := ⟨_, rfl⟩
          rw [hls] at hfl2 hls9
          have HLS := Lib.hid hls
          have HDV : Hid (dvOk SS k ods[k] = (decide (ls ≤ 60) && compB lo hi x && decide (v >>> ls = 0) && sts.all (stOk nr))) := Lib.hid (by
            rw [hdk, ← HSS.out]
            unfold dvOk
            dsimp only
            rw [hls, HNR.out, List.getD_eq_getElem?_getD, List.getD_eq_getElem?_getD, List.getElem?_eq_getElem hkk, List.getElem?_eq_getElem hks, hx, hv]
            rfl)
          have HSTS := Lib.hid hst
          have q0 := hfl2.f0 rfl
          have q1 := hfl2.fs 0 rfl
          have q2 := hfl2.fs 1 rfl
          have q3 := hfl2.fs 2 rfl
          have q4 := hfl2.fs 3 rfl
          have x0 := hflk2.f0 rfl
          have x1 := hflk2.fs 0 rfl
          have v0 := hfls2.f0 rfl
          rw [Nat.mul_one] at hqA
          subst eA' eAk' eAs'
          clear ek1 ek2 ek3 eAk hatk ekk hflk hflk2 es1 es2 es3 eAs hats ess hfls hfls2 hfl hfl2 hA hst hls hdk hx hv hFa hFk hFs
          obtain ⟨xl, hxl⟩ : ∃ n, Nt.lo x = n := ⟨_, rfl⟩
          obtain ⟨xh, hxh⟩ : ∃ n, Nt.hi x = n := ⟨_, rfl⟩
          have hCO := fun W => ccompass_any lo hi x hx128 W
          unfold ntV at hCO
          rw [hxl, hxh] at hCO
          rw [hxl] at x0
          rw [hxh] at x1
          obtain ⟨R, hR⟩ : ∃ R, compB lo hi x = R := ⟨_, rfl⟩
          rw [hR] at hCO HDV
          obtain ⟨db, hdb⟩ : ∃ db, wr.heap.size = db := ⟨_, rfl⟩
          obtain ⟨wD, hwD⟩ : ∃ wD : World, wr.alloc (.cells #[.string dn, .bool dp, .int .i64 lo, .int .i64 hi, .slice At ls ct] 80) = wD := ⟨_, rfl⟩
          have KD : Blk wD db 80 #[.string dn, .bool dp, .int .i64 lo, .int .i64 hi, .slice At ls ct] := by rw [← hwD, ← hdb]; exact Blk.new _ _ _
          have hBD : Below wr.heap.size wr wD := by rw [← hwD]; exact Ba (B0 wr) _
          have HBD := Lib.hid hBD
          have HKD := Lib.hid KD
          have hBW : Below w2.heap.size w2 wD := Bt HBR.out hBD
          have HBW := Lib.hid hBW
          have HS := Lib.hid (fun W (hb : Below wD.heap.size wD W) => (show ((W.cell? ⟨db, 2, none⟩ = some (.int .i64 lo) ∧ W.cell? ⟨db, 3, none⟩ = some (.int .i64 hi) ∧ W.cell? ⟨db, 4, none⟩ = some (.slice At ls ct)) ∧ W.cell? ⟨b, 7, none⟩ = some (.slice (some adk) nd ck) ∧ W.cell? ⟨rb, 0, none⟩ = some (.slice (some ads) nd cs)) ∧ (W.cell? p = some (.int .u64 (xl : Int)) ∧ W.cell? ⟨p.block, p.off + 1, none⟩ = some (.int .u64 (xh : Int))) ∧ W.cell? q = some (.int .u64 (v : Int)) from by
            have h := KD.below hb KD.lt
            obtain ⟨-, ⟨h1, -, -⟩, h2, -, -⟩ := HCL.out W (Bt hBW hb)
            rw [c4] at h2
            rw [c3] at h1
            have hb' := Bt hBD hb
            exact ⟨⟨⟨h.cell 2, h.cell 3, h.cell 4⟩, h2, h1⟩, ⟨(hb'.cell (p := p) hpb).trans x0, (hb'.cell (p := ⟨p.block, p.off + 1, none⟩) hpb).trans x1⟩, (hb'.cell (p := q) hqb).trans v0⟩))
          have hBBD : ∀ (L : Nat → Bool) (i : Nat) (w w' : World), Below w.heap.size w w' → Below wD.heap.size wD w → Below wD.heap.size wD w' := fun _ _ _ _ h1 h2 => Bt h2 h1
          have HCO := Lib.hid hCO
          clear hCO hR hxl hxh hx128 KD hBD hBW x0 x1 v0 hpb hqb hBr
          go_upto_region 14 with fail
          clear q0 q1 q2 q3 q4 hwD
          by_cases hl6 : 60 < ls
          · have hRF4 : RF = false := by rw [HRF2.out, allI_false k hkl (by rw [HDV.out, decide_eq_false (by omega : ¬ ls ≤ 60)]; rfl)]; rfl
            have HRF4 := Lib.hid hRF4
            have hl6I : (60 : Int) < (ls : Int) := by omega
            obtain ⟨⟨⟨z2, z3, z4⟩, z7, zr⟩, -, -⟩ := HS.out wD (B0 wD)
            clear hRF4 hBBD HS
            go_quiet (fail)
            obtain ⟨w5, hw5⟩ : ∃ w5 : World, wD.drewN nq = w5 := ⟨_, rfl⟩
            rw [hw5]
            have HB5 : Hid (Below w2.heap.size w2 w5) := Lib.hid (by rw [← hw5]; exact below_drewN HBW.out _)
            clear hw5
            go_wp2_with fail
            go_ret
            exact ⟨by rw [HRF4.out]; rfl, Bt HB1.out (Bt HB2.out HB5.out)⟩
          have hlI : ¬ (60 : Int) < (ls : Int) := by omega
          have hls : (ls : Int) ≤ 60 := by omega
          cases R with
          | false =>
            have hRF4 : RF = false := by rw [HRF2.out, allI_false k hkl (by rw [HDV.out]; simp)]; rfl
            have HRF4 := Lib.hid hRF4
            clear hRF4
            refine region_blocks (by kernel_rfl) ?_
            refine from_lawW 27 EN4B (fun _ W => Below wD.heap.size wD W) (FN4B b rb db k nd ck cs ls ct xl xh v 0 adk ads p q At lo hi) VN4B (by kernel_rfl) rfl (FN4B_V _ _ _ _ _ _ _ _ _ _ _ _ _ _ _ _ _ _ _ _) (by kernel_rfl) (by kernel_rfl) ((B0 wD).drew) ⟨?_, ?_, ?_, ?_, ?_, ?_, ?_, ?_, ?_, ?_, ?_, ?_, ?_, ?_, ?_, ?_, ?_, ?_, ?_, ?_, ?_, ?_, ?_, ?_, ?_, ?_, ?_, trivial⟩ ?_
            · refine OpFactW.value rfl (FN4B_below _ _ _ _ _ _ _ _ _ _ _ _ _ _ _ _ _ _ _ _) hBBD fun L a w2 hl hf D hb => ?_
              have h0 : sl a 9 = .pointer (some ⟨db, 0, none⟩) := hf 9 (by kernel_rfl)
              refine ⟨.pointer (some ⟨db, 4, none⟩), w2, ?_, B0 _, fun s _ h => h 83 rfl⟩
              unfold sl at h0
              simp at h0
              simp [go_sem, h0]
            · refine OpFactW.value rfl (FN4B_below _ _ _ _ _ _ _ _ _ _ _ _ _ _ _ _ _ _ _ _) hBBD fun L a w2 hl hf D hb => ?_
              have h0 : sl a 83 = .pointer (some ⟨db, 4, none⟩) := D 0 (by kernel_rfl)
              have es := HS.out w2 hb
              refine ⟨.slice At ls ct, w2, ?_, B0 _, fun s _ h => h 84 rfl⟩
              unfold sl at h0
              simp at h0
              simp [go_sem, h0, es]
            · refine OpFactW.value rfl (FN4B_below _ _ _ _ _ _ _ _ _ _ _ _ _ _ _ _ _ _ _ _) hBBD fun L a w2 hl hf D hb => ?_
              have h11 : sl a 84 = .slice At ls ct := D 1 (by kernel_rfl)
              refine ⟨.int .i64 (ls : Int), w2, ?_, B0 _, fun s _ h => h 85 rfl⟩
              unfold sl at h11
              simp at h11
              simp [go_sem, h11]
            · refine OpFactW.value rfl (FN4B_below _ _ _ _ _ _ _ _ _ _ _ _ _ _ _ _ _ _ _ _) hBBD fun L a w2 hl hf D hb => ?_
              have h11 : sl a 85 = .int .i64 (ls : Int) := D 2 (by kernel_rfl)
              refine ⟨.bool false, w2, ?_, B0 _, fun s _ h => h 86 rfl⟩
              unfold sl at h11
              simp at h11
              simp [go_sem, h11, hls]
            · refine OpFactW.value rfl (FN4B_below _ _ _ _ _ _ _ _ _ _ _ _ _ _ _ _ _ _ _ _) hBBD fun L a w2 hl hf D hb => ?_
              have h11 : sl a 86 = .bool false := D 3 (by kernel_rfl)
              refine ⟨.bool false, w2, ?_, B0 _, fun s _ h => h 87 rfl⟩
              unfold sl at h11
              simp at h11
              simp [go_sem, h11]
            · refine OpFactW.on (g := 4) (d := 87) rfl rfl (fun s w h => h) (by kernel_rfl) fun L a w2 hl hf D hb => OpFactW.wp_value (L := L) (FN4B_below _ _ _ _ _ _ _ _ _ _ _ _ _ _ _ _ _ _ _ _) hBBD hb ?_
              have h0 : sl a 9 = .pointer (some ⟨db, 0, none⟩) := hf 9 (by kernel_rfl)
              refine ⟨.pointer (some ⟨db, 2, none⟩), w2, ?_, B0 _, fun s _ h => h 88 rfl⟩
              unfold sl at h0
              simp at h0
              simp [go_sem, h0]
            · refine OpFactW.on (g := 4) (d := 87) rfl rfl (fun s w h => h) (by kernel_rfl) fun L a w2 hl hf D hb => OpFactW.wp_value (L := L) (FN4B_below _ _ _ _ _ _ _ _ _ _ _ _ _ _ _ _ _ _ _ _) hBBD hb ?_
              have h0 : sl a 88 = .pointer (some ⟨db, 2, none⟩) := D 5 (by kernel_rfl)
              have es := HS.out w2 hb
              refine ⟨.agg #[.int .i64 lo, .int .i64 hi], w2, ?_, B0 _, fun s _ h => h 89 rfl⟩
              unfold sl at h0
              simp at h0
              simp [go_sem, h0, es]
            · refine OpFactW.on (g := 4) (d := 87) rfl rfl (fun s w h => h) (by kernel_rfl) fun L a w2 hl hf D hb => OpFactW.wp_value (L := L) (FN4B_below _ _ _ _ _ _ _ _ _ _ _ _ _ _ _ _ _ _ _ _) hBBD hb ?_
              have h0 : sl a 1 = .pointer (some ⟨b, 0, none⟩) := hf 1 (by kernel_rfl)
              refine ⟨.pointer (some ⟨b, 7, none⟩), w2, ?_, B0 _, fun s _ h => h 90 rfl⟩
              unfold sl at h0
              simp at h0
              simp [go_sem, h0]
            · refine OpFactW.on (g := 4) (d := 87) rfl rfl (fun s w h => h) (by kernel_rfl) fun L a w2 hl hf D hb => OpFactW.wp_value (L := L) (FN4B_below _ _ _ _ _ _ _ _ _ _ _ _ _ _ _ _ _ _ _ _) hBBD hb ?_
              have h0 : sl a 90 = .pointer (some ⟨b, 7, none⟩) := D 7 (by kernel_rfl)
              have es := HS.out w2 hb
              refine ⟨.slice (some adk) nd ck, w2, ?_, B0 _, fun s _ h => h 91 rfl⟩
              unfold sl at h0
              simp at h0
              simp [go_sem, h0, es]
            · refine OpFactW.on (g := 4) (d := 87) rfl rfl (fun s w h => h) (by kernel_rfl) fun L a w2 hl hf D hb => OpFactW.wp_value (L := L) (FN4B_below _ _ _ _ _ _ _ _ _ _ _ _ _ _ _ _ _ _ _ _) hBBD hb ?_
              have h0 : sl a 8 = .int .i64 (k : Int) := hf 8 (by kernel_rfl)
              refine ⟨.int .i64 (k : Int), w2, ?_, B0 _, fun s _ h => h 92 rfl⟩
              unfold sl at h0
              simp [go_sem, h0]
            · refine OpFactW.on (g := 4) (d := 87) rfl rfl (fun s w h => h) (by kernel_rfl) fun L a w2 hl hf D hb => OpFactW.wp_value (L := L) (FN4B_below _ _ _ _ _ _ _ _ _ _ _ _ _ _ _ _ _ _ _ _) hBBD hb ?_
              have h11 : sl a 91 = .slice (some adk) nd ck := D 8 (by kernel_rfl)
              have h12 : sl a 92 = .int .i64 (k : Int) := D 9 (by kernel_rfl)
              refine ⟨.pointer (some p), w2, ?_, B0 _, fun s _ h => h 93 rfl⟩
              unfold sl at h11 h12
              simp at h11 h12
              simp [go_sem, h11, h12, hkI, hpA]
            · refine OpFactW.on (g := 4) (d := 87) rfl rfl (fun s w h => h) (by kernel_rfl) fun L a w2 hl hf D hb => OpFactW.wp_value (L := L) (FN4B_below _ _ _ _ _ _ _ _ _ _ _ _ _ _ _ _ _ _ _ _) hBBD hb ?_
              have h0 : sl a 93 = .pointer (some p) := D 10 (by kernel_rfl)
              have es := HS.out w2 hb
              refine ⟨.agg #[.int .u64 (xl : Int), .int .u64 (xh : Int)], w2, ?_, B0 _, fun s _ h => h 94 rfl⟩
              unfold sl at h0
              simp at h0
              simp [go_sem, h0, es]
            · refine OpFactW.on (g := 4) (d := 87) rfl rfl (fun s w h => h) (by kernel_rfl) fun L a w2 hl hf D hb => OpFactW.wp_call (L := L) (FN4B_below _ _ _ _ _ _ _ _ _ _ _ _ _ _ _ _ _ _ _ _) hBBD hb ?_
              have h11 : sl a 89 = .agg #[.int .i64 lo, .int .i64 hi] := D 6 (by kernel_rfl)
              have h12 : sl a 94 = .agg #[.int .u64 (xl : Int), .int .u64 (xh : Int)] := D 11 (by kernel_rfl)
              refine ⟨22, #[.agg #[.int .i64 lo, .int .i64 hi], .agg #[.int .u64 (xl : Int), .int .u64 (xh : Int)]], ?_, (HCO.out w2).mono ?_⟩
              · unfold sl at h11 h12
                simp at h11 h12
                simp [go_sem, h11, h12]
              · rintro e w' ⟨rfl, hb3⟩
                exact ⟨_, rfl, hb3, fun s _ h => h 95 rfl⟩
            · refine OpFactW.on (g := 4) (d := 87) rfl rfl (fun s w h => h) (by kernel_rfl) fun L a w2 hl hf D hb => OpFactW.wp_value (L := L) (FN4B_below _ _ _ _ _ _ _ _ _ _ _ _ _ _ _ _ _ _ _ _) hBBD hb ?_
              have h11 : sl a 95 = .bool false := D 12 (by kernel_rfl)
              refine ⟨.bool true, w2, ?_, B0 _, fun s _ h => h 96 rfl⟩
              unfold sl at h11
              simp at h11
              simp [go_sem, h11]
            · refine OpFactW.value rfl (FN4B_below _ _ _ _ _ _ _ _ _ _ _ _ _ _ _ _ _ _ _ _) hBBD fun L a w2 hl hf D hb => ?_
              have h11 : sl a 87 = .bool false := D 4 (by kernel_rfl)
              have h12 : sl a 96 = .bool true := D 13 (by kernel_rfl)
              refine ⟨.bool true, w2, ?_, B0 _, fun s _ h => h 97 rfl⟩
              unfold sl at h11 h12
              simp at h11 h12
              simp [go_sem, h11, h12]
            · refine OpFactW.value rfl (FN4B_below _ _ _ _ _ _ _ _ _ _ _ _ _ _ _ _ _ _ _ _) hBBD fun L a w2 hl hf D hb => ?_
              have h11 : sl a 97 = .bool true := D 14 (by kernel_rfl)
              refine ⟨.bool true, w2, ?_, B0 _, fun s _ h => h 98 rfl⟩
              unfold sl at h11
              simp at h11
              simp [go_sem, h11]
            · refine OpFactW.off (g := 15) (d := 98) (c := true) rfl rfl (by simp) (by decide) (fun _ _ _ h => h) (fun s w h => h) (by kernel_rfl) (fun s w => trivial)
            · refine OpFactW.off (g := 15) (d := 98) (c := true) rfl rfl (by simp) (by decide) (fun _ _ _ h => h) (fun s w h => h) (by kernel_rfl) (fun s w => trivial)
            · refine OpFactW.off (g := 15) (d := 98) (c := true) rfl rfl (by simp) (by decide) (fun _ _ _ h => h) (fun s w h => h) (by kernel_rfl) (fun s w => trivial)
            · refine OpFactW.off (g := 15) (d := 98) (c := true) rfl rfl (by simp) (by decide) (fun _ _ _ h => h) (fun s w h => h) (by kernel_rfl) (fun s w => trivial)
            · refine OpFactW.off (g := 15) (d := 98) (c := true) rfl rfl (by simp) (by decide) (fun _ _ _ h => h) (fun s w h => h) (by kernel_rfl) (fun s w => trivial)
            · refine OpFactW.off (g := 15) (d := 98) (c := true) rfl rfl (by simp) (by decide) (fun _ _ _ h => h) (fun s w h => h) (by kernel_rfl) (fun s w => trivial)
            · refine OpFactW.off (g := 15) (d := 98) (c := true) rfl rfl (by simp) (by decide) (fun _ _ _ h => h) (fun s w h => h) (by kernel_rfl) (fun s w => trivial)
            · refine OpFactW.off (g := 15) (d := 98) (c := true) rfl rfl (by simp) (by decide) (fun _ _ _ h => h) (fun s w h => h) (by kernel_rfl) (fun s w => trivial)
            · refine OpFactW.off (g := 15) (d := 98) (c := true) rfl rfl (by simp) (by decide) (fun _ _ _ h => h) (fun s w h => h) (by kernel_rfl) (fun s w => trivial)
            · refine OpFactW.off (g := 15) (d := 98) (c := true) rfl rfl (by simp) (by decide) (fun _ _ _ h => h) (fun s w h => h) (by kernel_rfl) (fun s w => trivial)
            · refine OpFactW.value rfl (FN4B_below _ _ _ _ _ _ _ _ _ _ _ _ _ _ _ _ _ _ _ _) hBBD fun L a w2 hl hf D hb => ?_
              have h11 : sl a 98 = .bool true := D 15 (by kernel_rfl)
              refine ⟨.bool true, w2, ?_, B0 _, fun s _ h => h 109 rfl⟩
              unfold sl at h11
              simp at h11
              simp [go_sem, h11]
            intro L9 y9 w9 hb9 hF9
            have e109 := hF9 26 (by decide) rfl
            simp only [FN4B] at e109
            have HB9 := Lib.hid (show Below wD.heap.size wD w9 from hb9)
            clear hF9 hb9
            rw [aft27 (d0 := 83) (d1 := 84) (d2 := 85) (d3 := 86) (d4 := 87) (d5 := 88) (d6 := 89) (d7 := 90) (d8 := 91) (d9 := 92) (d10 := 93) (d11 := 94) (d12 := 95) (d13 := 96) (d14 := 97) (d15 := 98) (d16 := 99) (d17 := 100) (d18 := 101) (d19 := 102) (d20 := 103) (d21 := 104) (d22 := 105) (d23 := 106) (d24 := 107) (d25 := 108) (d26 := 109) (by kernel_rfl) rfl]
            rw [e109]
            simp only [List.set_cons_succ, List.set_cons_zero]
            refine from_end rfl ?_
            go_wp2_with fail
            go_ret
            exact ⟨by rw [HRF4.out]; rfl, Bt HB1.out (Bt HB2.out (Bt HBW.out HB9.out))⟩
          | true =>
            have s7 := shr_ofO v ls (by omega)
            have m7 : min ls 64 = ls := by omega
            obtain ⟨v5, hv5⟩ : ∃ n, v >>> ls = n := ⟨_, rfl⟩
            rw [hv5] at s7 HDV
            by_cases c7 : v5 = 0
            · have c7B : ((v5 : Int) == 0) = true := by simp; omega
              refine region_blocks (by kernel_rfl) ?_
              refine from_lawW 27 EN4C (fun _ W => Below wD.heap.size wD W) (FN4C b rb db k nd ck cs ls ct xl xh v v5 adk ads p q At lo hi) VN4C (by kernel_rfl) rfl (FN4C_V _ _ _ _ _ _ _ _ _ _ _ _ _ _ _ _ _ _ _ _) (by kernel_rfl) (by kernel_rfl) ((B0 wD).drew) ⟨?_, ?_, ?_, ?_, ?_, ?_, ?_, ?_, ?_, ?_, ?_, ?_, ?_, ?_, ?_, ?_, ?_, ?_, ?_, ?_, ?_, ?_, ?_, ?_, ?_, ?_, ?_, trivial⟩ ?_
              · refine OpFactW.value rfl (FN4C_below _ _ _ _ _ _ _ _ _ _ _ _ _ _ _ _ _ _ _ _) hBBD fun L a w2 hl hf D hb => ?_
                have h0 : sl a 9 = .pointer (some ⟨db, 0, none⟩) := hf 9 (by kernel_rfl)
                refine ⟨.pointer (some ⟨db, 4, none⟩), w2, ?_, B0 _, fun s _ h => h 83 rfl⟩
                unfold sl at h0
                simp at h0
                simp [go_sem, h0]
              · refine OpFactW.value rfl (FN4C_below _ _ _ _ _ _ _ _ _ _ _ _ _ _ _ _ _ _ _ _) hBBD fun L a w2 hl hf D hb => ?_
                have h0 : sl a 83 = .pointer (some ⟨db, 4, none⟩) := D 0 (by kernel_rfl)
                have es := HS.out w2 hb
                refine ⟨.slice At ls ct, w2, ?_, B0 _, fun s _ h => h 84 rfl⟩
                unfold sl at h0
                simp at h0
                simp [go_sem, h0, es]
              · refine OpFactW.value rfl (FN4C_below _ _ _ _ _ _ _ _ _ _ _ _ _ _ _ _ _ _ _ _) hBBD fun L a w2 hl hf D hb => ?_
                have h11 : sl a 84 = .slice At ls ct := D 1 (by kernel_rfl)
                refine ⟨.int .i64 (ls : Int), w2, ?_, B0 _, fun s _ h => h 85 rfl⟩
                unfold sl at h11
                simp at h11
                simp [go_sem, h11]
              · refine OpFactW.value rfl (FN4C_below _ _ _ _ _ _ _ _ _ _ _ _ _ _ _ _ _ _ _ _) hBBD fun L a w2 hl hf D hb => ?_
                have h11 : sl a 85 = .int .i64 (ls : Int) := D 2 (by kernel_rfl)
                refine ⟨.bool false, w2, ?_, B0 _, fun s _ h => h 86 rfl⟩
                unfold sl at h11
                simp at h11
                simp [go_sem, h11, hls]
              · refine OpFactW.value rfl (FN4C_below _ _ _ _ _ _ _ _ _ _ _ _ _ _ _ _ _ _ _ _) hBBD fun L a w2 hl hf D hb => ?_
                have h11 : sl a 86 = .bool false := D 3 (by kernel_rfl)
                refine ⟨.bool false, w2, ?_, B0 _, fun s _ h => h 87 rfl⟩
                unfold sl at h11
                simp at h11
                simp [go_sem, h11]
              · refine OpFactW.on (g := 4) (d := 87) rfl rfl (fun s w h => h) (by kernel_rfl) fun L a w2 hl hf D hb => OpFactW.wp_value (L := L) (FN4C_below _ _ _ _ _ _ _ _ _ _ _ _ _ _ _ _ _ _ _ _) hBBD hb ?_
                have h0 : sl a 9 = .pointer (some ⟨db, 0, none⟩) := hf 9 (by kernel_rfl)
                refine ⟨.pointer (some ⟨db, 2, none⟩), w2, ?_, B0 _, fun s _ h => h 88 rfl⟩
                unfold sl at h0
                simp at h0
                simp [go_sem, h0]
              · refine OpFactW.on (g := 4) (d := 87) rfl rfl (fun s w h => h) (by kernel_rfl) fun L a w2 hl hf D hb => OpFactW.wp_value (L := L) (FN4C_below _ _ _ _ _ _ _ _ _ _ _ _ _ _ _ _ _ _ _ _) hBBD hb ?_
                have h0 : sl a 88 = .pointer (some ⟨db, 2, none⟩) := D 5 (by kernel_rfl)
                have es := HS.out w2 hb
                refine ⟨.agg #[.int .i64 lo, .int .i64 hi], w2, ?_, B0 _, fun s _ h => h 89 rfl⟩
                unfold sl at h0
                simp at h0
                simp [go_sem, h0, es]
              · refine OpFactW.on (g := 4) (d := 87) rfl rfl (fun s w h => h) (by kernel_rfl) fun L a w2 hl hf D hb => OpFactW.wp_value (L := L) (FN4C_below _ _ _ _ _ _ _ _ _ _ _ _ _ _ _ _ _ _ _ _) hBBD hb ?_
                have h0 : sl a 1 = .pointer (some ⟨b, 0, none⟩) := hf 1 (by kernel_rfl)
                refine ⟨.pointer (some ⟨b, 7, none⟩), w2, ?_, B0 _, fun s _ h => h 90 rfl⟩
                unfold sl at h0
                simp at h0
                simp [go_sem, h0]
              · refine OpFactW.on (g := 4) (d := 87) rfl rfl (fun s w h => h) (by kernel_rfl) fun L a w2 hl hf D hb => OpFactW.wp_value (L := L) (FN4C_below _ _ _ _ _ _ _ _ _ _ _ _ _ _ _ _ _ _ _ _) hBBD hb ?_
                have h0 : sl a 90 = .pointer (some ⟨b, 7, none⟩) := D 7 (by kernel_rfl)
                have es := HS.out w2 hb
                refine ⟨.slice (some adk) nd ck, w2, ?_, B0 _, fun s _ h => h 91 rfl⟩
                unfold sl at h0
                simp at h0
                simp [go_sem, h0, es]
              · refine OpFactW.on (g := 4) (d := 87) rfl rfl (fun s w h => h) (by kernel_rfl) fun L a w2 hl hf D hb => OpFactW.wp_value (L := L) (FN4C_below _ _ _ _ _ _ _ _ _ _ _ _ _ _ _ _ _ _ _ _) hBBD hb ?_
                have h0 : sl a 8 = .int .i64 (k : Int) := hf 8 (by kernel_rfl)
                refine ⟨.int .i64 (k : Int), w2, ?_, B0 _, fun s _ h => h 92 rfl⟩
                unfold sl at h0
                simp [go_sem, h0]
              · refine OpFactW.on (g := 4) (d := 87) rfl rfl (fun s w h => h) (by kernel_rfl) fun L a w2 hl hf D hb => OpFactW.wp_value (L := L) (FN4C_below _ _ _ _ _ _ _ _ _ _ _ _ _ _ _ _ _ _ _ _) hBBD hb ?_
                have h11 : sl a 91 = .slice (some adk) nd ck := D 8 (by kernel_rfl)
                have h12 : sl a 92 = .int .i64 (k : Int) := D 9 (by kernel_rfl)
                refine ⟨.pointer (some p), w2, ?_, B0 _, fun s _ h => h 93 rfl⟩
                unfold sl at h11 h12
                simp at h11 h12
                simp [go_sem, h11, h12, hkI, hpA]
              · refine OpFactW.on (g := 4) (d := 87) rfl rfl (fun s w h => h) (by kernel_rfl) fun L a w2 hl hf D hb => OpFactW.wp_value (L := L) (FN4C_below _ _ _ _ _ _ _ _ _ _ _ _ _ _ _ _ _ _ _ _) hBBD hb ?_
                have h0 : sl a 93 = .pointer (some p) := D 10 (by kernel_rfl)
                have es := HS.out w2 hb
                refine ⟨.agg #[.int .u64 (xl : Int), .int .u64 (xh : Int)], w2, ?_, B0 _, fun s _ h => h 94 rfl⟩
                unfold sl at h0
                simp at h0
                simp [go_sem, h0, es]
              · refine OpFactW.on (g := 4) (d := 87) rfl rfl (fun s w h => h) (by kernel_rfl) fun L a w2 hl hf D hb => OpFactW.wp_call (L := L) (FN4C_below _ _ _ _ _ _ _ _ _ _ _ _ _ _ _ _ _ _ _ _) hBBD hb ?_
                have h11 : sl a 89 = .agg #[.int .i64 lo, .int .i64 hi] := D 6 (by kernel_rfl)
                have h12 : sl a 94 = .agg #[.int .u64 (xl : Int), .int .u64 (xh : Int)] := D 11 (by kernel_rfl)
                refine ⟨22, #[.agg #[.int .i64 lo, .int .i64 hi], .agg #[.int .u64 (xl : Int), .int .u64 (xh : Int)]], ?_, (HCO.out w2).mono ?_⟩
                · unfold sl at h11 h12
                  simp at h11 h12
                  simp [go_sem, h11, h12]
                · rintro e w' ⟨rfl, hb3⟩
                  exact ⟨_, rfl, hb3, fun s _ h => h 95 rfl⟩
              · refine OpFactW.on (g := 4) (d := 87) rfl rfl (fun s w h => h) (by kernel_rfl) fun L a w2 hl hf D hb => OpFactW.wp_value (L := L) (FN4C_below _ _ _ _ _ _ _ _ _ _ _ _ _ _ _ _ _ _ _ _) hBBD hb ?_
                have h11 : sl a 95 = .bool true := D 12 (by kernel_rfl)
                refine ⟨.bool false, w2, ?_, B0 _, fun s _ h => h 96 rfl⟩
                unfold sl at h11
                simp at h11
                simp [go_sem, h11]
              · refine OpFactW.value rfl (FN4C_below _ _ _ _ _ _ _ _ _ _ _ _ _ _ _ _ _ _ _ _) hBBD fun L a w2 hl hf D hb => ?_
                have h11 : sl a 87 = .bool false := D 4 (by kernel_rfl)
                have h12 : sl a 96 = .bool false := D 13 (by kernel_rfl)
                refine ⟨.bool false, w2, ?_, B0 _, fun s _ h => h 97 rfl⟩
                unfold sl at h11 h12
                simp at h11 h12
                simp [go_sem, h11, h12]
              · refine OpFactW.value rfl (FN4C_below _ _ _ _ _ _ _ _ _ _ _ _ _ _ _ _ _ _ _ _) hBBD fun L a w2 hl hf D hb => ?_
                have h11 : sl a 97 = .bool false := D 14 (by kernel_rfl)
                refine ⟨.bool false, w2, ?_, B0 _, fun s _ h => h 98 rfl⟩
                unfold sl at h11
                simp at h11
                simp [go_sem, h11]
              · refine OpFactW.on (g := 15) (d := 98) rfl rfl (fun s w h => h) (by kernel_rfl) fun L a w2 hl hf D hb => OpFactW.wp_value (L := L) (FN4C_below _ _ _ _ _ _ _ _ _ _ _ _ _ _ _ _ _ _ _ _) hBBD hb ?_
                have h0 : sl a 4 = .pointer (some ⟨rb, 0, none⟩) := hf 4 (by kernel_rfl)
                refine ⟨.pointer (some ⟨rb, 0, none⟩), w2, ?_, B0 _, fun s _ h => h 99 rfl⟩
                unfold sl at h0
                simp at h0
                simp [go_sem, h0]
              · refine OpFactW.on (g := 15) (d := 98) rfl rfl (fun s w h => h) (by kernel_rfl) fun L a w2 hl hf D hb => OpFactW.wp_value (L := L) (FN4C_below _ _ _ _ _ _ _ _ _ _ _ _ _ _ _ _ _ _ _ _) hBBD hb ?_
                have h0 : sl a 99 = .pointer (some ⟨rb, 0, none⟩) := D 16 (by kernel_rfl)
                have es := HS.out w2 hb
                refine ⟨.slice (some ads) nd cs, w2, ?_, B0 _, fun s _ h => h 100 rfl⟩
                unfold sl at h0
                simp at h0
                simp [go_sem, h0, es]
              · refine OpFactW.on (g := 15) (d := 98) rfl rfl (fun s w h => h) (by kernel_rfl) fun L a w2 hl hf D hb => OpFactW.wp_value (L := L) (FN4C_below _ _ _ _ _ _ _ _ _ _ _ _ _ _ _ _ _ _ _ _) hBBD hb ?_
                have h0 : sl a 8 = .int .i64 (k : Int) := hf 8 (by kernel_rfl)
                refine ⟨.int .i64 (k : Int), w2, ?_, B0 _, fun s _ h => h 101 rfl⟩
                unfold sl at h0
                simp [go_sem, h0]
              · refine OpFactW.on (g := 15) (d := 98) rfl rfl (fun s w h => h) (by kernel_rfl) fun L a w2 hl hf D hb => OpFactW.wp_value (L := L) (FN4C_below _ _ _ _ _ _ _ _ _ _ _ _ _ _ _ _ _ _ _ _) hBBD hb ?_
                have h11 : sl a 100 = .slice (some ads) nd cs := D 17 (by kernel_rfl)
                have h12 : sl a 101 = .int .i64 (k : Int) := D 18 (by kernel_rfl)
                refine ⟨.pointer (some q), w2, ?_, B0 _, fun s _ h => h 102 rfl⟩
                unfold sl at h11 h12
                simp at h11 h12
                simp [go_sem, h11, h12, hkI, hqA]
              · refine OpFactW.on (g := 15) (d := 98) rfl rfl (fun s w h => h) (by kernel_rfl) fun L a w2 hl hf D hb => OpFactW.wp_value (L := L) (FN4C_below _ _ _ _ _ _ _ _ _ _ _ _ _ _ _ _ _ _ _ _) hBBD hb ?_
                have h0 : sl a 102 = .pointer (some q) := D 19 (by kernel_rfl)
                have es := HS.out w2 hb
                refine ⟨.int .u64 (v : Int), w2, ?_, B0 _, fun s _ h => h 103 rfl⟩
                unfold sl at h0
                simp at h0
                simp [go_sem, h0, es]
              · refine OpFactW.on (g := 15) (d := 98) rfl rfl (fun s w h => h) (by kernel_rfl) fun L a w2 hl hf D hb => OpFactW.wp_value (L := L) (FN4C_below _ _ _ _ _ _ _ _ _ _ _ _ _ _ _ _ _ _ _ _) hBBD hb ?_
                have h0 : sl a 9 = .pointer (some ⟨db, 0, none⟩) := hf 9 (by kernel_rfl)
                refine ⟨.pointer (some ⟨db, 4, none⟩), w2, ?_, B0 _, fun s _ h => h 104 rfl⟩
                unfold sl at h0
                simp at h0
                simp [go_sem, h0]
              · refine OpFactW.on (g := 15) (d := 98) rfl rfl (fun s w h => h) (by kernel_rfl) fun L a w2 hl hf D hb => OpFactW.wp_value (L := L) (FN4C_below _ _ _ _ _ _ _ _ _ _ _ _ _ _ _ _ _ _ _ _) hBBD hb ?_
                have h0 : sl a 104 = .pointer (some ⟨db, 4, none⟩) := D 21 (by kernel_rfl)
                have es := HS.out w2 hb
                refine ⟨.slice At ls ct, w2, ?_, B0 _, fun s _ h => h 105 rfl⟩
                unfold sl at h0
                simp at h0
                simp [go_sem, h0, es]
              · refine OpFactW.on (g := 15) (d := 98) rfl rfl (fun s w h => h) (by kernel_rfl) fun L a w2 hl hf D hb => OpFactW.wp_value (L := L) (FN4C_below _ _ _ _ _ _ _ _ _ _ _ _ _ _ _ _ _ _ _ _) hBBD hb ?_
                have h11 : sl a 105 = .slice At ls ct := D 22 (by kernel_rfl)
                refine ⟨.int .i64 (ls : Int), w2, ?_, B0 _, fun s _ h => h 106 rfl⟩
                unfold sl at h11
                simp at h11
                simp [go_sem, h11]
              · refine OpFactW.on (g := 15) (d := 98) rfl rfl (fun s w h => h) (by kernel_rfl) fun L a w2 hl hf D hb => OpFactW.wp_value (L := L) (FN4C_below _ _ _ _ _ _ _ _ _ _ _ _ _ _ _ _ _ _ _ _) hBBD hb ?_
                have h11 : sl a 103 = .int .u64 (v : Int) := D 20 (by kernel_rfl)
                have h12 : sl a 106 = .int .i64 (ls : Int) := D 23 (by kernel_rfl)
                refine ⟨.int .u64 (v5 : Int), w2, ?_, B0 _, fun s _ h => h 107 rfl⟩
                unfold sl at h11 h12
                simp at h11 h12
                simp [go_sem, h11, h12, m7, s7]
              · refine OpFactW.on (g := 15) (d := 98) rfl rfl (fun s w h => h) (by kernel_rfl) fun L a w2 hl hf D hb => OpFactW.wp_value (L := L) (FN4C_below _ _ _ _ _ _ _ _ _ _ _ _ _ _ _ _ _ _ _ _) hBBD hb ?_
                have h11 : sl a 107 = .int .u64 (v5 : Int) := D 24 (by kernel_rfl)
                refine ⟨.bool false, w2, ?_, B0 _, fun s _ h => h 108 rfl⟩
                unfold sl at h11
                simp at h11
                simp [go_sem, h11, c7]
              · refine OpFactW.value rfl (FN4C_below _ _ _ _ _ _ _ _ _ _ _ _ _ _ _ _ _ _ _ _) hBBD fun L a w2 hl hf D hb => ?_
                have h11 : sl a 98 = .bool false := D 15 (by kernel_rfl)
                have h12 : sl a 108 = .bool false := D 25 (by kernel_rfl)
                refine ⟨.bool false, w2, ?_, B0 _, fun s _ h => h 109 rfl⟩
                unfold sl at h11 h12
                simp at h11 h12
                simp [go_sem, h11, h12]
              intro L9 y9 w9 hb9 hF9
              have e109 := hF9 26 (by decide) rfl
              simp only [FN4C] at e109
              have HB9 := Lib.hid (show Below wD.heap.size wD w9 from hb9)
              clear hF9 hb9
              rw [aft27 (d0 := 83) (d1 := 84) (d2 := 85) (d3 := 86) (d4 := 87) (d5 := 88) (d6 := 89) (d7 := 90) (d8 := 91) (d9 := 92) (d10 := 93) (d11 := 94) (d12 := 95) (d13 := 96) (d14 := 97) (d15 := 98) (d16 := 99) (d17 := 100) (d18 := 101) (d19 := 102) (d20 := 103) (d21 := 104) (d22 := 105) (d23 := 106) (d24 := 107) (d25 := 108) (d26 := 109) (by kernel_rfl) rfl]
              rw [e109]
              simp only [List.set_cons_succ, List.set_cons_zero]
              refine from_end rfl ?_
              obtain ⟨⟨⟨z2, z3, z4⟩, z7, zr⟩, -, -⟩ := HS.out w9 HB9.out
              have hHD : dvOk SS k ods[k] = sts.all (stOk nr) := by rw [HDV.out, c7]; simp; omega
              have HHD := Lib.hid hHD
              clear hHD HS hBBD
              go_upto_region 17 with fail
              obtain ⟨ga, rfl⟩ : ∃ ga : Nat, ga = gk := ⟨gk, rfl⟩
              go_loopg [113] ls (fun gg s113 w3 => ∃ (j : Nat), j ≤ ls ∧ ls - j ≤ gg ∧ s113 = .int .i64 (j : Int) ∧ Aside (∀ i (h : i < sts.length), i < j → stOk nr sts[i] = true) ∧ Aside (Below w9.heap.size w9 w3))
              case atStart => exact ⟨0, by omega, by omega, rfl, (fun j _ h => absurd h (by omega)), B0 w9⟩
              case round =>
                obtain ⟨wq, rfl⟩ : ∃ W : World, W = wr := ⟨wr, rfl⟩
                obtain ⟨j, hj, hg3, rfl, hAj, hB9⟩ := hrel
                replace hAj : ∀ i (h : i < sts.length), i < j → stOk nr sts[i] = true := hAj
                replace hB9 : Below w9.heap.size w9 wq := hB9
                have HAJ := Lib.hid hAj
                have HBQ : Hid (Below w2.heap.size w2 wq) := Lib.hid (Bt HBW.out (Bt HB9.out hB9))
                have HB9Q := Lib.hid hB9
                by_cases hjt : j < ls
                · have hjI : (j : Int) < (ls : Int) := by omega
                  have hjd : decide ((j : Int) < (ls : Int)) = true := decide_eq_true hjI
                  have hjl : j < sts.length := by rw [HLS.out]; exact hjt
                  have hB0 : Below w.heap.size w wq := Bt HB1.out (Bt HB2.out HBQ.out)
                  obtain ⟨A', c', e', -, -, hat⟩ := Sl.openF HSTS.out
                  injection e' with e1 e2 e3
                  obtain ⟨adt, cse, eA, hFa, -, ⟨vg, rfl, hsg⟩, hfl⟩ := hat j hjl
                  have eA' : At = some adt := by rw [e1]; exact eA
                  clear e1 e2 e3 eA hat
                  have hfl2 := hfl.below hB0 (by rw [block_of_add]; exact hF _ hFa)
                  obtain ⟨p4, hp4⟩ : ∃ p, adt.add (j * 4) = p := ⟨_, rfl⟩
                  rw [hp4] at hfl2
                  obtain ⟨Ag, cg, rfl, -⟩ := Sl.openF hsg
                  obtain ⟨⟨sn, snm, sdn, sgs⟩, hsj⟩ : ∃ s, sts[j] = s := ⟨_, rfl⟩
                  rw [hsj] at hfl2 hsg
                  dsimp only at hfl2 hsg
                  obtain ⟨ng, hng⟩ : ∃ n, sgs.length = n := ⟨_, rfl⟩
                  have hCS := fun W (hb : Below w2.heap.size w2 W) => containsf_sg (fun g => !sgOk nr g) (.slice Ag sgs.length cg) sgs 24 #[.pointer (some ⟨ob, 0, none⟩)] (enters_of Tryz.func24 (by kernel_rfl) rfl) W F (fun c hc => Nat.lt_of_lt_of_le (hF c hc) (Bt HB1.out (Bt HB2.out hb)).size) (Sl.keepF relSeg hsg (Agree.below (Bt HB1.out (Bt HB2.out hb)) hF))
                    (fun W' x u _ hb' hu => right1_any nr hrl9 _ cr ob x u W' (Nat.lt_of_lt_of_le HKO.out.lt (Bt hb hb').size) (HCL.out W' (Bt hb hb')).1.2.1 F (fun c hc => Nat.lt_of_lt_of_le (hF c hc) (Bt HB1.out (Bt HB2.out (Bt hb hb'))).size) hu)
                  rw [hng] at hCS hfl2
                  have e : (sgs.any fun g => !sgOk nr g) = !(sgs.all (sgOk nr)) := any_notO (sgOk nr) sgs
                  obtain ⟨R9, hR9⟩ : ∃ r, sgs.all (sgOk nr) = r := ⟨_, rfl⟩
                  rw [e, hR9] at hCS
                  have HKS : Hid (stOk nr sts[j] = R9) := Lib.hid (by rw [hsj]; exact hR9)
                  have HCS := Lib.hid hCS
                  have q0 := hfl2.f0 rfl
                  have q1 := hfl2.fs 0 rfl
                  have q2 := hfl2.fs 1 rfl
                  have q3 := hfl2.fs 2 rfl
                  subst eA'
                  clear hCS hR9 e hsj hsg hfl hfl2 hB0 hFa hng hAj hB9
                  obtain ⟨sb, hsb⟩ : ∃ sb, wq.heap.size = sb := ⟨_, rfl⟩
                  obtain ⟨wS, hwS⟩ : ∃ wS : World, wq.alloc (.cells #[.string sn, .int .i64 snm, .int .i64 sdn, .slice Ag ng cg] 92) = wS := ⟨_, rfl⟩
                  have KS : Blk wS sb 92 #[.string sn, .int .i64 snm, .int .i64 sdn, .slice Ag ng cg] := by rw [← hwS, ← hsb]; exact Blk.new _ _ _
                  have HBS : Hid (Below wq.heap.size wq wS) := Lib.hid (by rw [← hwS]; exact Ba (B0 wq) _)
                  have y3 : wS.cell? ⟨sb, 3, none⟩ = some (.slice Ag ng cg) := KS.cell 3
                  clear KS
                  go_upto_region 19 with fail
                  cases R9 with
                  | false =>
                    have hRF4 : RF = false := by rw [HRF2.out, allI_false k hkl (by rw [HHD.out]; exact all_falseO j hjl HKS.out)]; rfl
                    have HRF4 := Lib.hid hRF4
                    clear hRF4
                    go_wp2_with (go_at_call 23; (with_reducible refine ((HCS.out _ (Bt HBQ.out HBS.out)).mono ?_)); rintro e w4 ⟨rfl, hb4⟩; have HB4 := Lib.hid (Bt (Bt HBQ.out HBS.out) hb4); clear hb4)
                    go_ret
                    exact ⟨by rw [HRF4.out]; rfl, Bt HB1.out (Bt HB2.out HB4.out)⟩
                  | true =>
                    go_wp2_with (go_at_call 23; (with_reducible refine ((HCS.out _ (Bt HBQ.out HBS.out)).mono ?_)); rintro e w4 ⟨rfl, hb4⟩; have HB4 := Lib.hid (Bt (Bt HB9Q.out HBS.out) hb4); clear hb4)
                    go_roundg (ls - (j + 1))
                    case measure => omega
                    case rel =>
                      exact ⟨j + 1, by omega, by omega, by go_num, (fun i h hi => by
                        by_cases e : i = j
                        · subst e; exact HKS.out
                        · exact HAJ.out i h (by omega)), HB4.out⟩
                · obtain rfl : ls = j := by omega
                  have hjd : decide ((ls : Int) < (ls : Int)) = false := decide_eq_false (by omega)
                  have hOK : dvOk SS k ods[k] = true := by rw [HHD.out]; exact all_trueO fun i h => hAj i h (by rw [← HLS.out]; exact h)
                  have HOK := Lib.hid hOK
                  clear hOK hAj hB9
                  go_upto_region 22 with fail
                  go_wp2_with fail
                  go_roundg (nd - (k + 1))
                  case measure => omega
                  case rel =>
                    exact ⟨k + 1, by omega, by omega, by go_num, (fun i h hi => by
                      by_cases e : i = k
                      · subst e; exact HOK.out
                      · exact HA.out i h (by omega)), HBQ.out⟩
            · have c7I : ¬ (v5 : Int) = 0 := by omega
              have hRF4 : RF = false := by rw [HRF2.out, allI_false k hkl (by rw [HDV.out]; simp [c7])]; rfl
              have HRF4 := Lib.hid hRF4
              clear hRF4
              refine region_blocks (by kernel_rfl) ?_
              refine from_lawW 27 EN4E (fun _ W => Below wD.heap.size wD W) (FN4E b rb db k nd ck cs ls ct xl xh v v5 adk ads p q At lo hi) VN4E (by kernel_rfl) rfl (FN4E_V _ _ _ _ _ _ _ _ _ _ _ _ _ _ _ _ _ _ _ _) (by kernel_rfl) (by kernel_rfl) ((B0 wD).drew) ⟨?_, ?_, ?_, ?_, ?_, ?_, ?_, ?_, ?_, ?_, ?_, ?_, ?_, ?_, ?_, ?_, ?_, ?_, ?_, ?_, ?_, ?_, ?_, ?_, ?_, ?_, ?_, trivial⟩ ?_
              · refine OpFactW.value rfl (FN4E_below _ _ _ _ _ _ _ _ _ _ _ _ _ _ _ _ _ _ _ _) hBBD fun L a w2 hl hf D hb => ?_
                have h0 : sl a 9 = .pointer (some ⟨db, 0, none⟩) := hf 9 (by kernel_rfl)
                refine ⟨.pointer (some ⟨db, 4, none⟩), w2, ?_, B0 _, fun s _ h => h 83 rfl⟩
                unfold sl at h0
                simp at h0
                simp [go_sem, h0]
              · refine OpFactW.value rfl (FN4E_below _ _ _ _ _ _ _ _ _ _ _ _ _ _ _ _ _ _ _ _) hBBD fun L a w2 hl hf D hb => ?_
                have h0 : sl a 83 = .pointer (some ⟨db, 4, none⟩) := D 0 (by kernel_rfl)
                have es := HS.out w2 hb
                refine ⟨.slice At ls ct, w2, ?_, B0 _, fun s _ h => h 84 rfl⟩
                unfold sl at h0
                simp at h0
                simp [go_sem, h0, es]
              · refine OpFactW.value rfl (FN4E_below _ _ _ _ _ _ _ _ _ _ _ _ _ _ _ _ _ _ _ _) hBBD fun L a w2 hl hf D hb => ?_
                have h11 : sl a 84 = .slice At ls ct := D 1 (by kernel_rfl)
                refine ⟨.int .i64 (ls : Int), w2, ?_, B0 _, fun s _ h => h 85 rfl⟩
                unfold sl at h11
                simp at h11
                simp [go_sem, h11]
              · refine OpFactW.value rfl (FN4E_below _ _ _ _ _ _ _ _ _ _ _ _ _ _ _ _ _ _ _ _) hBBD fun L a w2 hl hf D hb => ?_
                have h11 : sl a 85 = .int .i64 (ls : Int) := D 2 (by kernel_rfl)
                refine ⟨.bool false, w2, ?_, B0 _, fun s _ h => h 86 rfl⟩
                unfold sl at h11
                simp at h11
                simp [go_sem, h11, hls]
              · refine OpFactW.value rfl (FN4E_below _ _ _ _ _ _ _ _ _ _ _ _ _ _ _ _ _ _ _ _) hBBD fun L a w2 hl hf D hb => ?_
                have h11 : sl a 86 = .bool false := D 3 (by kernel_rfl)
                refine ⟨.bool false, w2, ?_, B0 _, fun s _ h => h 87 rfl⟩
                unfold sl at h11
                simp at h11
                simp [go_sem, h11]
              · refine OpFactW.on (g := 4) (d := 87) rfl rfl (fun s w h => h) (by kernel_rfl) fun L a w2 hl hf D hb => OpFactW.wp_value (L := L) (FN4E_below _ _ _ _ _ _ _ _ _ _ _ _ _ _ _ _ _ _ _ _) hBBD hb ?_
                have h0 : sl a 9 = .pointer (some ⟨db, 0, none⟩) := hf 9 (by kernel_rfl)
                refine ⟨.pointer (some ⟨db, 2, none⟩), w2, ?_, B0 _, fun s _ h => h 88 rfl⟩
                unfold sl at h0
                simp at h0
                simp [go_sem, h0]
              · refine OpFactW.on (g := 4) (d := 87) rfl rfl (fun s w h => h) (by kernel_rfl) fun L a w2 hl hf D hb => OpFactW.wp_value (L := L) (FN4E_below _ _ _ _ _ _ _ _ _ _ _ _ _ _ _ _ _ _ _ _) hBBD hb ?_
                have h0 : sl a 88 = .pointer (some ⟨db, 2, none⟩) := D 5 (by kernel_rfl)
                have es := HS.out w2 hb
                refine ⟨.agg #[.int .i64 lo, .int .i64 hi], w2, ?_, B0 _, fun s _ h => h 89 rfl⟩
                unfold sl at h0
                simp at h0
                simp [go_sem, h0, es]
              · refine OpFactW.on (g := 4) (d := 87) rfl rfl (fun s w h => h) (by kernel_rfl) fun L a w2 hl hf D hb => OpFactW.wp_value (L := L) (FN4E_below _ _ _ _ _ _ _ _ _ _ _ _ _ _ _ _ _ _ _ _) hBBD hb ?_
                have h0 : sl a 1 = .pointer (some ⟨b, 0, none⟩) := hf 1 (by kernel_rfl)
                refine ⟨.pointer (some ⟨b, 7, none⟩), w2, ?_, B0 _, fun s _ h => h 90 rfl⟩
                unfold sl at h0
                simp at h0
                simp [go_sem, h0]
              · refine OpFactW.on (g := 4) (d := 87) rfl rfl (fun s w h => h) (by kernel_rfl) fun L a w2 hl hf D hb => OpFactW.wp_value (L := L) (FN4E_below _ _ _ _ _ _ _ _ _ _ _ _ _ _ _ _ _ _ _ _) hBBD hb ?_
                have h0 : sl a 90 = .pointer (some ⟨b, 7, none⟩) := D 7 (by kernel_rfl)
                have es := HS.out w2 hb
                refine ⟨.slice (some adk) nd ck, w2, ?_, B0 _, fun s _ h => h 91 rfl⟩
                unfold sl at h0
                simp at h0
                simp [go_sem, h0, es]
              · refine OpFactW.on (g := 4) (d := 87) rfl rfl (fun s w h => h) (by kernel_rfl) fun L a w2 hl hf D hb => OpFactW.wp_value (L := L) (FN4E_below _ _ _ _ _ _ _ _ _ _ _ _ _ _ _ _ _ _ _ _) hBBD hb ?_
                have h0 : sl a 8 = .int .i64 (k : Int) := hf 8 (by kernel_rfl)
                refine ⟨.int .i64 (k : Int), w2, ?_, B0 _, fun s _ h => h 92 rfl⟩
                unfold sl at h0
                simp [go_sem, h0]
              · refine OpFactW.on (g := 4) (d := 87) rfl rfl (fun s w h => h) (by kernel_rfl) fun L a w2 hl hf D hb => OpFactW.wp_value (L := L) (FN4E_below _ _ _ _ _ _ _ _ _ _ _ _ _ _ _ _ _ _ _ _) hBBD hb ?_
                have h11 : sl a 91 = .slice (some adk) nd ck := D 8 (by kernel_rfl)
                have h12 : sl a 92 = .int .i64 (k : Int) := D 9 (by kernel_rfl)
                refine ⟨.pointer (some p), w2, ?_, B0 _, fun s _ h => h 93 rfl⟩
                unfold sl at h11 h12
                simp at h11 h12
                simp [go_sem, h11, h12, hkI, hpA]
              · refine OpFactW.on (g := 4) (d := 87) rfl rfl (fun s w h => h) (by kernel_rfl) fun L a w2 hl hf D hb => OpFactW.wp_value (L := L) (FN4E_below _ _ _ _ _ _ _ _ _ _ _ _ _ _ _ _ _ _ _ _) hBBD hb ?_
                have h0 : sl a 93 = .pointer (some p) := D 10 (by kernel_rfl)
                have es := HS.out w2 hb
                refine ⟨.agg #[.int .u64 (xl : Int), .int .u64 (xh : Int)], w2, ?_, B0 _, fun s _ h => h 94 rfl⟩
                unfold sl at h0
                simp at h0
                simp [go_sem, h0, es]
              · refine OpFactW.on (g := 4) (d := 87) rfl rfl (fun s w h => h) (by kernel_rfl) fun L a w2 hl hf D hb => OpFactW.wp_call (L := L) (FN4E_below _ _ _ _ _ _ _ _ _ _ _ _ _ _ _ _ _ _ _ _) hBBD hb ?_
                have h11 : sl a 89 = .agg #[.int .i64 lo, .int .i64 hi] := D 6 (by kernel_rfl)
                have h12 : sl a 94 = .agg #[.int .u64 (xl : Int), .int .u64 (xh : Int)] := D 11 (by kernel_rfl)
                refine ⟨22, #[.agg #[.int .i64 lo, .int .i64 hi], .agg #[.int .u64 (xl : Int), .int .u64 (xh : Int)]], ?_, (HCO.out w2).mono ?_⟩
                · unfold sl at h11 h12
                  simp at h11 h12
                  simp [go_sem, h11, h12]
                · rintro e w' ⟨rfl, hb3⟩
                  exact ⟨_, rfl, hb3, fun s _ h => h 95 rfl⟩
              · refine OpFactW.on (g := 4) (d := 87) rfl rfl (fun s w h => h) (by kernel_rfl) fun L a w2 hl hf D hb => OpFactW.wp_value (L := L) (FN4E_below _ _ _ _ _ _ _ _ _ _ _ _ _ _ _ _ _ _ _ _) hBBD hb ?_
                have h11 : sl a 95 = .bool true := D 12 (by kernel_rfl)
                refine ⟨.bool false, w2, ?_, B0 _, fun s _ h => h 96 rfl⟩
                unfold sl at h11
                simp at h11
                simp [go_sem, h11]
              · refine OpFactW.value rfl (FN4E_below _ _ _ _ _ _ _ _ _ _ _ _ _ _ _ _ _ _ _ _) hBBD fun L a w2 hl hf D hb => ?_
                have h11 : sl a 87 = .bool false := D 4 (by kernel_rfl)
                have h12 : sl a 96 = .bool false := D 13 (by kernel_rfl)
                refine ⟨.bool false, w2, ?_, B0 _, fun s _ h => h 97 rfl⟩
                unfold sl at h11 h12
                simp at h11 h12
                simp [go_sem, h11, h12]
              · refine OpFactW.value rfl (FN4E_below _ _ _ _ _ _ _ _ _ _ _ _ _ _ _ _ _ _ _ _) hBBD fun L a w2 hl hf D hb => ?_
                have h11 : sl a 97 = .bool false := D 14 (by kernel_rfl)
                refine ⟨.bool false, w2, ?_, B0 _, fun s _ h => h 98 rfl⟩
                unfold sl at h11
                simp at h11
                simp [go_sem, h11]
              · refine OpFactW.on (g := 15) (d := 98) rfl rfl (fun s w h => h) (by kernel_rfl) fun L a w2 hl hf D hb => OpFactW.wp_value (L := L) (FN4E_below _ _ _ _ _ _ _ _ _ _ _ _ _ _ _ _ _ _ _ _) hBBD hb ?_
                have h0 : sl a 4 = .pointer (some ⟨rb, 0, none⟩) := hf 4 (by kernel_rfl)
                refine ⟨.pointer (some ⟨rb, 0, none⟩), w2, ?_, B0 _, fun s _ h => h 99 rfl⟩
                unfold sl at h0
                simp at h0
                simp [go_sem, h0]
              · refine OpFactW.on (g := 15) (d := 98) rfl rfl (fun s w h => h) (by kernel_rfl) fun L a w2 hl hf D hb => OpFactW.wp_value (L := L) (FN4E_below _ _ _ _ _ _ _ _ _ _ _ _ _ _ _ _ _ _ _ _) hBBD hb ?_
                have h0 : sl a 99 = .pointer (some ⟨rb, 0, none⟩) := D 16 (by kernel_rfl)
                have es := HS.out w2 hb
                refine ⟨.slice (some ads) nd cs, w2, ?_, B0 _, fun s _ h => h 100 rfl⟩
                unfold sl at h0
                simp at h0
                simp [go_sem, h0, es]
              · refine OpFactW.on (g := 15) (d := 98) rfl rfl (fun s w h => h) (by kernel_rfl) fun L a w2 hl hf D hb => OpFactW.wp_value (L := L) (FN4E_below _ _ _ _ _ _ _ _ _ _ _ _ _ _ _ _ _ _ _ _) hBBD hb ?_
                have h0 : sl a 8 = .int .i64 (k : Int) := hf 8 (by kernel_rfl)
                refine ⟨.int .i64 (k : Int), w2, ?_, B0 _, fun s _ h => h 101 rfl⟩
                unfold sl at h0
                simp [go_sem, h0]
              · refine OpFactW.on (g := 15) (d := 98) rfl rfl (fun s w h => h) (by kernel_rfl) fun L a w2 hl hf D hb => OpFactW.wp_value (L := L) (FN4E_below _ _ _ _ _ _ _ _ _ _ _ _ _ _ _ _ _ _ _ _) hBBD hb ?_
                have h11 : sl a 100 = .slice (some ads) nd cs := D 17 (by kernel_rfl)
                have h12 : sl a 101 = .int .i64 (k : Int) := D 18 (by kernel_rfl)
                refine ⟨.pointer (some q), w2, ?_, B0 _, fun s _ h => h 102 rfl⟩
                unfold sl at h11 h12
                simp at h11 h12
                simp [go_sem, h11, h12, hkI, hqA]
              · refine OpFactW.on (g := 15) (d := 98) rfl rfl (fun s w h => h) (by kernel_rfl) fun L a w2 hl hf D hb => OpFactW.wp_value (L := L) (FN4E_below _ _ _ _ _ _ _ _ _ _ _ _ _ _ _ _ _ _ _ _) hBBD hb ?_
                have h0 : sl a 102 = .pointer (some q) := D 19 (by kernel_rfl)
                have es := HS.out w2 hb
                refine ⟨.int .u64 (v : Int), w2, ?_, B0 _, fun s _ h => h 103 rfl⟩
                unfold sl at h0
                simp at h0
                simp [go_sem, h0, es]
              · refine OpFactW.on (g := 15) (d := 98) rfl rfl (fun s w h => h) (by kernel_rfl) fun L a w2 hl hf D hb => OpFactW.wp_value (L := L) (FN4E_below _ _ _ _ _ _ _ _ _ _ _ _ _ _ _ _ _ _ _ _) hBBD hb ?_
                have h0 : sl a 9 = .pointer (some ⟨db, 0, none⟩) := hf 9 (by kernel_rfl)
                refine ⟨.pointer (some ⟨db, 4, none⟩), w2, ?_, B0 _, fun s _ h => h 104 rfl⟩
                unfold sl at h0
                simp at h0
                simp [go_sem, h0]
              · refine OpFactW.on (g := 15) (d := 98) rfl rfl (fun s w h => h) (by kernel_rfl) fun L a w2 hl hf D hb => OpFactW.wp_value (L := L) (FN4E_below _ _ _ _ _ _ _ _ _ _ _ _ _ _ _ _ _ _ _ _) hBBD hb ?_
                have h0 : sl a 104 = .pointer (some ⟨db, 4, none⟩) := D 21 (by kernel_rfl)
                have es := HS.out w2 hb
                refine ⟨.slice At ls ct, w2, ?_, B0 _, fun s _ h => h 105 rfl⟩
                unfold sl at h0
                simp at h0
                simp [go_sem, h0, es]
              · refine OpFactW.on (g := 15) (d := 98) rfl rfl (fun s w h => h) (by kernel_rfl) fun L a w2 hl hf D hb => OpFactW.wp_value (L := L) (FN4E_below _ _ _ _ _ _ _ _ _ _ _ _ _ _ _ _ _ _ _ _) hBBD hb ?_
                have h11 : sl a 105 = .slice At ls ct := D 22 (by kernel_rfl)
                refine ⟨.int .i64 (ls : Int), w2, ?_, B0 _, fun s _ h => h 106 rfl⟩
                unfold sl at h11
                simp at h11
                simp [go_sem, h11]
              · refine OpFactW.on (g := 15) (d := 98) rfl rfl (fun s w h => h) (by kernel_rfl) fun L a w2 hl hf D hb => OpFactW.wp_value (L := L) (FN4E_below _ _ _ _ _ _ _ _ _ _ _ _ _ _ _ _ _ _ _ _) hBBD hb ?_
                have h11 : sl a 103 = .int .u64 (v : Int) := D 20 (by kernel_rfl)
                have h12 : sl a 106 = .int .i64 (ls : Int) := D 23 (by kernel_rfl)
                refine ⟨.int .u64 (v5 : Int), w2, ?_, B0 _, fun s _ h => h 107 rfl⟩
                unfold sl at h11 h12
                simp at h11 h12
                simp [go_sem, h11, h12, m7, s7]
              · refine OpFactW.on (g := 15) (d := 98) rfl rfl (fun s w h => h) (by kernel_rfl) fun L a w2 hl hf D hb => OpFactW.wp_value (L := L) (FN4E_below _ _ _ _ _ _ _ _ _ _ _ _ _ _ _ _ _ _ _ _) hBBD hb ?_
                have h11 : sl a 107 = .int .u64 (v5 : Int) := D 24 (by kernel_rfl)
                refine ⟨.bool true, w2, ?_, B0 _, fun s _ h => h 108 rfl⟩
                unfold sl at h11
                simp at h11
                simp [go_sem, h11, c7]
              · refine OpFactW.value rfl (FN4E_below _ _ _ _ _ _ _ _ _ _ _ _ _ _ _ _ _ _ _ _) hBBD fun L a w2 hl hf D hb => ?_
                have h11 : sl a 98 = .bool false := D 15 (by kernel_rfl)
                have h12 : sl a 108 = .bool true := D 25 (by kernel_rfl)
                refine ⟨.bool true, w2, ?_, B0 _, fun s _ h => h 109 rfl⟩
                unfold sl at h11 h12
                simp at h11 h12
                simp [go_sem, h11, h12]
              intro L9 y9 w9 hb9 hF9
              have e109 := hF9 26 (by decide) rfl
              simp only [FN4E] at e109
              have HB9 := Lib.hid (show Below wD.heap.size wD w9 from hb9)
              clear hF9 hb9
              rw [aft27 (d0 := 83) (d1 := 84) (d2 := 85) (d3 := 86) (d4 := 87) (d5 := 88) (d6 := 89) (d7 := 90) (d8 := 91) (d9 := 92) (d10 := 93) (d11 := 94) (d12 := 95) (d13 := 96) (d14 := 97) (d15 := 98) (d16 := 99) (d17 := 100) (d18 := 101) (d19 := 102) (d20 := 103) (d21 := 104) (d22 := 105) (d23 := 106) (d24 := 107) (d25 := 108) (d26 := 109) (by kernel_rfl) rfl]
              rw [e109]
              simp only [List.set_cons_succ, List.set_cons_zero]
              refine from_end rfl ?_
              go_wp2_with fail
              go_ret
              exact ⟨by rw [HRF4.out]; rfl, Bt HB1.out (Bt HB2.out (Bt HBW.out HB9.out))⟩
        · obtain rfl : nd = k := by omega
          have hkd : decide ((nd : Int) < (nd : Int)) = false := decide_eq_false (by omega)
          have hRF4 : RF = (ocs.all (cpOk nd) && pipeOk SS) := by
            rw [HRF2.out, allI_true fun j h => hA j h (by rw [← HND.out]; exact h), Bool.true_and]
          have HRF3 := Lib.hid hRF4
          obtain ⟨⟨p0, p1, p2, p3⟩, -, -, -, -⟩ := HCL.out wr hBr
          clear hRF4 HRF2 hA hBr HA
          go_upto_region 24 with fail
          obtain ⟨wC, rfl⟩ : ∃ W : World, W = wr := ⟨wr, rfl⟩
          have HBC := HBR
          clear HBR p0 p1 p2 p3
          have hw1 : IntKind.i64.wrap ((nd : Int) - 1) = (nd : Int) - 1 := by rw [IntKind.wrap_i64]; omega
          go_loopg [126] nc (fun gg s126 wr => ∃ (k : Nat), k ≤ nc ∧ nc - k ≤ gg ∧ s126 = .int .i64 (k : Int) ∧ Aside (∀ j (h : j < ocs.length), j < k → cpOk nd ocs[j] = true) ∧ Aside (Below w2.heap.size w2 wr))
          case atStart => exact ⟨0, by omega, by omega, rfl, (fun j _ h => absurd h (by omega)), HBC.out⟩
          case round =>
            obtain ⟨k, hk, hg, rfl, hA, hBr⟩ := hrel
            replace hA : ∀ j (h : j < ocs.length), j < k → cpOk nd ocs[j] = true := hA
            replace hBr : Below w2.heap.size w2 wr := hBr
            have HA := Lib.hid hA
            have HBR := Lib.hid hBr
            by_cases hlt : k < nc
            · have hkI : (k : Int) < (nc : Int) := by omega
              have hkd : decide ((k : Int) < (nc : Int)) = true := decide_eq_true hkI
              have hkl : k < ocs.length := by rw [HNC.out]; exact hlt
              obtain ⟨A', c', e', -, -, hat⟩ := Sl.openF HC.out
              injection e' with e1 e2 e3
              obtain ⟨ad, cse, eA, hFa, -, ecs, hfl⟩ := hat k hkl
              have eA' : Ac = some ad := by rw [e1]; exact eA
              rw [show cse = _ from ecs] at hfl
              have hfl2 := hfl.below (Bt HB1.out (Bt HB2.out hBr)) (by rw [block_of_add]; exact hF _ hFa)
              obtain ⟨p, hpA⟩ : ∃ p, ad.add (k * 5) = p := ⟨_, rfl⟩
              rw [hpA] at hfl2
              obtain ⟨⟨cn, csr, cds, csh, cth⟩, hck⟩ : ∃ c, ocs[k] = c := ⟨_, rfl⟩
              rw [hck] at hfl2
              dsimp only at hfl2
              have q0 := hfl2.f0 rfl
              have q1 := hfl2.fs 0 rfl
              have q2 := hfl2.fs 1 rfl
              have q3 := hfl2.fs 2 rfl
              have q4 := hfl2.fs 3 rfl
              have hWA := fun b W hk => within_two 0 ((nd : Int) - 1) csr cds b W hk
              have hWB := fun b W hc hb => within_one (-1000) 1000 csh b W hc hb
              have hCP : cpOk nd ocs[k] = (((decide (0 ≤ csr) && decide (csr ≤ (nd : Int) - 1)) && (decide (0 ≤ cds) && decide (cds ≤ (nd : Int) - 1))) && (decide (-1000 ≤ csh) && decide (csh ≤ 1000))) := by rw [hck]; rfl
              obtain ⟨Ra, hRa⟩ : ∃ R, ((decide (0 ≤ csr) && decide (csr ≤ (nd : Int) - 1)) && (decide (0 ≤ cds) && decide (cds ≤ (nd : Int) - 1))) = R := ⟨_, rfl⟩
              obtain ⟨Rb, hRb⟩ : ∃ R, (decide (-1000 ≤ csh) && decide (csh ≤ 1000)) = R := ⟨_, rfl⟩
              rw [hRa] at hWA hCP
              rw [hRb] at hWB hCP
              have HWA := Lib.hid hWA
              have HWB := Lib.hid hWB
              have HCP := Lib.hid hCP
              subst eA'
              clear e1 e2 e3 eA hat hA hfl hfl2 hWA hWB hCP hRa hRb hck hFa ecs
              obtain ⟨cb, hcb⟩ : ∃ cb, wr.heap.size = cb := ⟨_, rfl⟩
              obtain ⟨wK, hwK⟩ : ∃ wK : World, wr.alloc (.cells #[.string cn, .int .i64 csr, .int .i64 cds, .int .i64 csh, .bool cth] 94) = wK := ⟨_, rfl⟩
              have KK : Blk wK cb 94 #[.string cn, .int .i64 csr, .int .i64 cds, .int .i64 csh, .bool cth] := by rw [← hwK, ← hcb]; exact Blk.new _ _ _
              have HBK : Hid (Below w2.heap.size w2 wK) := Lib.hid (by rw [← hwK]; exact Ba hBr _)
              have HKK := Lib.hid KK
              have y1 : wK.cell? ⟨cb, 1, none⟩ = some (.int .i64 csr) := KK.cell 1
              have y2 : wK.cell? ⟨cb, 2, none⟩ = some (.int .i64 cds) := KK.cell 2
              have y3 : wK.cell? ⟨cb, 3, none⟩ = some (.int .i64 csh) := KK.cell 3
              clear KK hBr
              go_upto_region 26 with fail
              clear q0 q1 q2 q3 q4 hwK
              cases Ra with
              | false =>
                have hRF4 : RF = false := by rw [HRF3.out, all_falseO k hkl (by rw [HCP.out]; rfl)]; rfl
                have HRF4 := Lib.hid hRF4
                clear hRF4
                go_wp2_with (go_at_call 21; (with_reducible refine ((HWA.out wK.heap.size _ (Blk.new _ _ _)).mono ?_)); rintro e w4 ⟨rfl, hb4⟩; have HB4 := Lib.hid (Bt (Ba HBK.out _) hb4); clear hb4)
                go_ret
                exact ⟨by rw [HRF4.out]; rfl, Bt HB1.out (Bt HB2.out HB4.out)⟩
              | true =>
                cases Rb with
                | false =>
                  have hRF4 : RF = false := by rw [HRF3.out, all_falseO k hkl (by rw [HCP.out]; rfl)]; rfl
                  have HRF4 := Lib.hid hRF4
                  clear hRF4
                  go_wp2_with (first
                    | (go_at_call 21; (with_reducible refine ((HWA.out wK.heap.size _ (Blk.new _ _ _)).mono ?_)); rintro e w4 ⟨rfl, hb4⟩; have HB4 := Lib.hid (Bt (Ba HBK.out (.cells #[.int .i64 csr, .int .i64 cds] 3)) hb4); have z3 : w4.cell? ⟨cb, 3, none⟩ = some (.int .i64 csh) := (Bc hb4 (by have := HKK.out.lt; simp; omega)).trans ((Bc (Ba (B0 wK) _) HKK.out.lt).trans y3); clear hb4)
                    | (go_at_call 21; (with_reducible refine ((HWB.out w4.heap.size _ (by simp [go_sem]) (by simp)).mono ?_)); rintro e w5 ⟨rfl, hb5⟩; have HB5 := Lib.hid (Bt (Ba HB4.out _) hb5); clear hb5))
                  go_ret
                  exact ⟨by rw [HRF4.out]; rfl, Bt HB1.out (Bt HB2.out HB5.out)⟩
                | true =>
                  go_wp2_with (first
                    | (go_at_call 21; (with_reducible refine ((HWA.out wK.heap.size _ (Blk.new _ _ _)).mono ?_)); rintro e w4 ⟨rfl, hb4⟩; have HB4 := Lib.hid (Bt (Ba HBK.out (.cells #[.int .i64 csr, .int .i64 cds] 3)) hb4); have z3 : w4.cell? ⟨cb, 3, none⟩ = some (.int .i64 csh) := (Bc hb4 (by have := HKK.out.lt; simp; omega)).trans ((Bc (Ba (B0 wK) _) HKK.out.lt).trans y3); clear hb4)
                    | (go_at_call 21; (with_reducible refine ((HWB.out w4.heap.size _ (by simp [go_sem]) (by simp)).mono ?_)); rintro e w5 ⟨rfl, hb5⟩; have HB5 := Lib.hid (Bt (Ba HB4.out _) hb5); clear hb5))
                  go_roundg (nc - (k + 1))
                  case measure => omega
                  case rel =>
                    exact ⟨k + 1, by omega, by omega, by go_num, (fun i h hi => by
                      by_cases e : i = k
                      · subst e; rw [HCP.out]; rfl
                      · exact HA.out i h (by omega)), HB5.out⟩
            · obtain rfl : nc = k := by omega
              have hkd : decide ((nc : Int) < (nc : Int)) = false := decide_eq_false (by omega)
              have hRF4 : RF = pipeOk SS := by
                rw [HRF3.out, all_trueO fun j h => hA j h (by rw [← HNC.out]; exact h), Bool.true_and]
              have HRF4 := Lib.hid hRF4
              obtain ⟨-, -, -, t8, t9⟩ := HCL.out wr hBr
              clear hRF4 HRF3 hA HA hw1
              obtain ⟨qb, hqb⟩ : ∃ qb, wr.heap.size = qb := ⟨_, rfl⟩
              obtain ⟨wP, hwP⟩ : ∃ wP : World, wr.alloc (.cells #[.int .i64 rank, .int .i64 num] 48) = wP := ⟨_, rfl⟩
              have KP : Blk wP qb 48 #[.int .i64 rank, .int .i64 num] := by rw [← hwP, ← hqb]; exact Blk.new _ _ _
              have hBP : Below w2.heap.size w2 wP := by rw [← hwP]; exact Ba hBr _
              have HBP := Lib.hid hBP
              clear hBr
              go_upto_region 30 with fail
              clear t8 t9 hwP
              have hw1 : IntKind.i64.wrap ((nr : Int) - 1) = (nr : Int) - 1 := by rw [IntKind.wrap_i64]; omega
              have hBBP : ∀ (L : Nat → Bool) (i : Nat) (w w' : World), Below w.heap.size w w' → Below wP.heap.size wP w → Below wP.heap.size wP w' := fun _ _ _ _ h1 h2 => Bt h2 h1
              have hWA := fun b W hc hb => within_one 0 ((nr : Int) - 1) rank b W hc hb
              have hPO : pipeOk SS = ((decide (0 ≤ rank) && decide (rank ≤ (nr : Int) - 1)) && (decide (0 ≤ num) && decide (num ≤ (windN ors rank.toNat : Int) - 1))) := by
                rw [← HSS.out]
                unfold pipeOk
                dsimp only
                rw [HNR.out]
              obtain ⟨Ra, hRa⟩ : ∃ R, (decide (0 ≤ rank) && decide (rank ≤ (nr : Int) - 1)) = R := ⟨_, rfl⟩
              rw [hRa] at hWA hPO
              have HWA := Lib.hid hWA
              clear hWA
              cases Ra with
              | false =>
                have HS := Lib.hid (fun W (hb : Below wP.heap.size wP W) => (show W.cell? ⟨ob, 1, none⟩ = some (.slice Ar nr cr) ∧ W.cell? ⟨qb, 0, none⟩ = some (.int .i64 rank) from ⟨(HCL.out W (Bt hBP hb)).1.2.1, (KP.below hb KP.lt).cell 0⟩))
                have HP0 : Hid (RF = false) := Lib.hid (by rw [HRF4.out, hPO]; rfl)
                clear hRa hPO hBP KP
                refine region_blocks (by kernel_rfl) ?_
                refine from_lawW 24 EN5F (fun _ W => Below wP.heap.size wP W) (FN5F ob qb nr cr rank Ar) VN5F (by kernel_rfl) rfl (FN5F_V _ _ _ _ _ _) (by kernel_rfl) (by kernel_rfl) ((B0 wP).drew) ⟨?_, ?_, ?_, ?_, ?_, ?_, ?_, ?_, ?_, ?_, ?_, ?_, ?_, ?_, ?_, ?_, ?_, ?_, ?_, ?_, ?_, ?_, ?_, ?_, trivial⟩ ?_
                · refine OpFactW.value rfl (FN5F_below _ _ _ _ _ _) hBBP fun L a w2 hl hf D hb => ?_
                  have h0 : sl a 3 = .pointer (some ⟨ob, 0, none⟩) := hf 3 (by kernel_rfl)
                  refine ⟨.pointer (some ⟨ob, 1, none⟩), w2, ?_, B0 _, fun s _ h => h 149 rfl⟩
                  unfold sl at h0
                  simp at h0
                  simp [go_sem, h0]
                · refine OpFactW.value rfl (FN5F_below _ _ _ _ _ _) hBBP fun L a w2 hl hf D hb => ?_
                  have h0 : sl a 149 = .pointer (some ⟨ob, 1, none⟩) := D 0 (by kernel_rfl)
                  have es := HS.out w2 hb
                  refine ⟨.slice Ar nr cr, w2, ?_, B0 _, fun s _ h => h 150 rfl⟩
                  unfold sl at h0
                  simp at h0
                  simp [go_sem, h0, es]
                · refine OpFactW.value rfl (FN5F_below _ _ _ _ _ _) hBBP fun L a w2 hl hf D hb => ?_
                  have h11 : sl a 150 = .slice Ar nr cr := D 1 (by kernel_rfl)
                  refine ⟨.int .i64 (nr : Int), w2, ?_, B0 _, fun s _ h => h 151 rfl⟩
                  unfold sl at h11
                  simp at h11
                  simp [go_sem, h11]
                · refine OpFactW.value rfl (FN5F_below _ _ _ _ _ _) hBBP fun L a w2 hl hf D hb => ?_
                  have h11 : sl a 151 = .int .i64 (nr : Int) := D 2 (by kernel_rfl)
                  refine ⟨.int .i64 ((nr : Int) - 1), w2, ?_, B0 _, fun s _ h => h 152 rfl⟩
                  unfold sl at h11
                  simp at h11
                  simp [go_sem, h11, hw1]
                · refine OpFactW.value rfl (FN5F_below _ _ _ _ _ _) hBBP fun L a w2 hl hf D hb => ?_
                  have h0 : sl a 14 = .pointer (some ⟨qb, 0, none⟩) := hf 14 (by kernel_rfl)
                  refine ⟨.pointer (some ⟨qb, 0, none⟩), w2, ?_, B0 _, fun s _ h => h 153 rfl⟩
                  unfold sl at h0
                  simp at h0
                  simp [go_sem, h0]
                · refine OpFactW.value rfl (FN5F_below _ _ _ _ _ _) hBBP fun L a w2 hl hf D hb => ?_
                  have h0 : sl a 153 = .pointer (some ⟨qb, 0, none⟩) := D 4 (by kernel_rfl)
                  have es := HS.out w2 hb
                  refine ⟨.int .i64 rank, w2, ?_, B0 _, fun s _ h => h 154 rfl⟩
                  unfold sl at h0
                  simp at h0
                  simp [go_sem, h0, es]
                · refine OpFactW.value rfl (FN5F_below _ _ _ _ _ _) hBBP fun L a w2 hl hf D hb => ?_
                  have h11 : sl a 154 = .int .i64 rank := D 5 (by kernel_rfl)
                  refine ⟨.slice (some ⟨w2.heap.size, 0, none⟩) 1 1, w2.alloc (.cells #[.int .i64 rank] 3), ?_, Ba (B0 w2) _, fun s _ h => ⟨_, h 155 rfl, Blk.new _ _ _⟩⟩
                  unfold sl at h11
                  simp at h11
                  simp [go_sem, h11]
                · refine OpFactW.call rfl (FN5F_below _ _ _ _ _ _) hBBP fun L a w2 hl hf D hb => ?_
                  have h11 : sl a 152 = .int .i64 ((nr : Int) - 1) := D 3 (by kernel_rfl)
                  obtain ⟨g, h12, hk⟩ : oneA w2 (sl a 155) rank := D 6 (by kernel_rfl)
                  refine ⟨21, #[.int .i64 0, .int .i64 ((nr : Int) - 1), .slice (some ⟨g, 0, none⟩) 1 1], ?_, (HWA.out g w2 (hk.cell 0) hk.lt).mono ?_⟩
                  · unfold sl at h11 h12
                    simp at h11 h12
                    simp [go_sem, h11, h12]
                  · rintro e w' ⟨rfl, hb3⟩
                    exact ⟨_, rfl, hb3, fun s _ h => h 156 rfl⟩
                · refine OpFactW.value rfl (FN5F_below _ _ _ _ _ _) hBBP fun L a w2 hl hf D hb => ?_
                  have h11 : sl a 156 = .bool false := D 7 (by kernel_rfl)
                  refine ⟨.bool false, w2, ?_, B0 _, fun s _ h => h 157 rfl⟩
                  unfold sl at h11
                  simp at h11
                  simp [go_sem, h11]
                · refine OpFactW.off (g := 8) (d := 157) (c := false) rfl rfl (by simp) (by decide) (fun _ _ _ h => h) (fun s w h => h) (by kernel_rfl) (fun s w => trivial)
                · refine OpFactW.off (g := 8) (d := 157) (c := false) rfl rfl (by simp) (by decide) (fun _ _ _ h => h) (fun s w h => h) (by kernel_rfl) (fun s w => trivial)
                · refine OpFactW.off (g := 8) (d := 157) (c := false) rfl rfl (by simp) (by decide) (fun _ _ _ h => h) (fun s w h => h) (by kernel_rfl) (fun s w => trivial)
                · refine OpFactW.off (g := 8) (d := 157) (c := false) rfl rfl (by simp) (by decide) (fun _ _ _ h => h) (fun s w h => h) (by kernel_rfl) (fun s w => trivial)
                · refine OpFactW.off (g := 8) (d := 157) (c := false) rfl rfl (by simp) (by decide) (fun _ _ _ h => h) (fun s w h => h) (by kernel_rfl) (fun s w => trivial)
                · refine OpFactW.off (g := 8) (d := 157) (c := false) rfl rfl (by simp) (by decide) (fun _ _ _ h => h) (fun s w h => h) (by kernel_rfl) (fun s w => trivial)
                · refine OpFactW.off (g := 8) (d := 157) (c := false) rfl rfl (by simp) (by decide) (fun _ _ _ h => h) (fun s w h => h) (by kernel_rfl) (fun s w => trivial)
                · refine OpFactW.off (g := 8) (d := 157) (c := false) rfl rfl (by simp) (by decide) (fun _ _ _ h => h) (fun s w h => h) (by kernel_rfl) (fun s w => trivial)
                · refine OpFactW.off (g := 8) (d := 157) (c := false) rfl rfl (by simp) (by decide) (fun _ _ _ h => h) (fun s w h => h) (by kernel_rfl) (fun s w => trivial)
                · refine OpFactW.off (g := 8) (d := 157) (c := false) rfl rfl (by simp) (by decide) (fun _ _ _ h => h) (fun s w h => h) (by kernel_rfl) (fun s w => trivial)
                · refine OpFactW.off (g := 8) (d := 157) (c := false) rfl rfl (by simp) (by decide) (fun _ _ _ h => h) (fun s w h => h) (by kernel_rfl) (fun s w => trivial)
                · refine OpFactW.off (g := 8) (d := 157) (c := false) rfl rfl (by simp) (by decide) (fun _ _ _ h => h) (fun s w h => h) (by kernel_rfl) (fun s w => trivial)
                · refine OpFactW.off (g := 8) (d := 157) (c := false) rfl rfl (by simp) (by decide) (fun _ _ _ h => h) (fun s w h => h) (by kernel_rfl) (fun s w => trivial)
                · refine OpFactW.value rfl (FN5F_below _ _ _ _ _ _) hBBP fun L a w2 hl hf D hb => ?_
                  have h11 : sl a 157 = .bool false := D 8 (by kernel_rfl)
                  refine ⟨.bool false, w2, ?_, B0 _, fun s _ h => h 171 rfl⟩
                  unfold sl at h11
                  simp at h11
                  simp [go_sem, h11]
                · refine OpFactW.value rfl (FN5F_below _ _ _ _ _ _) hBBP fun L a w2 hl hf D hb => ?_
                  have h11 : sl a 171 = .bool false := D 22 (by kernel_rfl)
                  refine ⟨.bool false, w2, ?_, B0 _, fun s _ h => h 2 rfl⟩
                  unfold sl at h11
                  simp at h11
                  simp [go_sem, h11]
                intro L9 y9 w9 hb9 hF9
                have e2 := hF9 23 (by decide) rfl
                simp only [FN5F] at e2
                have HB9 := Lib.hid (show Below wP.heap.size wP w9 from hb9)
                clear hF9 hb9
                rw [aft24 (d0 := 149) (d1 := 150) (d2 := 151) (d3 := 152) (d4 := 153) (d5 := 154) (d6 := 155) (d7 := 156) (d8 := 157) (d9 := 158) (d10 := 159) (d11 := 160) (d12 := 161) (d13 := 162) (d14 := 163) (d15 := 164) (d16 := 165) (d17 := 166) (d18 := 167) (d19 := 168) (d20 := 169) (d21 := 170) (d22 := 171) (d23 := 2) (by kernel_rfl) rfl]
                rw [e2]
                simp only [List.set_cons_succ, List.set_cons_zero]
                refine from_end rfl ?_
                go_wp2_with fail
                go_ret
                exact ⟨by rw [HP0.out]; rfl, Bt HB1.out (Bt HB2.out (Bt HBP.out HB9.out))⟩
              | true =>
                simp only [Bool.and_eq_true, decide_eq_true_eq] at hRa
                obtain ⟨rk, rfl⟩ : ∃ rk : Nat, rank = (rk : Int) := ⟨rank.toNat, by omega⟩
                have hrI : (rk : Int) < (nr : Int) := by omega
                have hkl : rk < ors.length := by rw [HNR.out]; omega
                obtain ⟨A', c', e', -, -, hat⟩ := Sl.openF HR.out
                injection e' with e1 e2 e3
                obtain ⟨ad, cse, eA, hFa, -, ⟨vw, rfl, hwd⟩, hfl⟩ := hat rk hkl
                have eA' : Ar = some ad := by rw [e1]; exact eA
                obtain ⟨Aw, cw, rfl, -⟩ := Sl.openF hwd
                obtain ⟨nw, hnw⟩ : ∃ n, ors[rk].wind.length = n := ⟨_, rfl⟩
                have hwl9 : nw ≤ 140737488355328 := by obtain ⟨_, _, _, _, h, _⟩ := Sl.openF hwd; rw [← hnw]; exact h
                rw [hnw] at hfl
                have hwN : windN ors ((rk : Int)).toNat = nw := by
                  unfold windN
                  rw [Int.toNat_natCast, List.getElem?_eq_getElem hkl]
                  exact hnw
                rw [hwN] at hPO
                obtain ⟨p, hpA⟩ : ∃ p, ad.add (rk * 6) = p := ⟨_, rfl⟩
                rw [hpA] at hfl
                have hB0 : Below w.heap.size w wP := Bt HB1.out (Bt HB2.out hBP)
                have hp5 := (hfl.below hB0 (by rw [← hpA, block_of_add]; exact hF _ hFa)).fs 4 rfl
                have hpb : p.block < wP.heap.size := by rw [← hpA, block_of_add]; exact Nat.lt_of_lt_of_le (hF _ hFa) hB0.size
                have hw2 : IntKind.i64.wrap ((nw : Int) - 1) = (nw : Int) - 1 := by rw [IntKind.wrap_i64]; omega
                have hWB := fun b W hc hb => within_one 0 ((nw : Int) - 1) num b W hc hb
                obtain ⟨R, hR⟩ : ∃ R, (decide (0 ≤ num) && decide (num ≤ (nw : Int) - 1)) = R := ⟨_, rfl⟩
                rw [hR] at hWB hPO
                have HWB := Lib.hid hWB
                have HP0 : Hid (RF = R) := Lib.hid (by rw [HRF4.out, hPO]; rfl)
                subst eA'
                have HS := Lib.hid (fun W (hb : Below wP.heap.size wP W) => (show (W.cell? ⟨ob, 1, none⟩ = some (.slice (some ad) nr cr) ∧ W.cell? ⟨p.block, p.off + 5, none⟩ = some (.slice Aw nw cw)) ∧ W.cell? ⟨qb, 0, none⟩ = some (.int .i64 (rk : Int)) ∧ W.cell? ⟨qb, 1, none⟩ = some (.int .i64 num) from ⟨⟨(HCL.out W (Bt hBP hb)).1.2.1, (Bc hb hpb).trans hp5⟩, (KP.below hb KP.lt).cell 0, (KP.below hb KP.lt).cell 1⟩))
                clear hRa hPO hBP KP e1 e2 e3 eA hat hfl hwd hwN hp5 hpb hB0 hWB hR hnw hFa hwl9
                refine region_blocks (by kernel_rfl) ?_
                refine from_lawW 24 EN5G (fun _ W => Below wP.heap.size wP W) (FN5G ob qb nr cr nw cw rk num ad p Aw R) VN5G (by kernel_rfl) rfl (FN5G_V _ _ _ _ _ _ _ _ _ _ _ _) (by kernel_rfl) (by kernel_rfl) ((B0 wP).drew) ⟨?_, ?_, ?_, ?_, ?_, ?_, ?_, ?_, ?_, ?_, ?_, ?_, ?_, ?_, ?_, ?_, ?_, ?_, ?_, ?_, ?_, ?_, ?_, ?_, trivial⟩ ?_
                · refine OpFactW.value rfl (FN5G_below _ _ _ _ _ _ _ _ _ _ _ _) hBBP fun L a w2 hl hf D hb => ?_
                  have h0 : sl a 3 = .pointer (some ⟨ob, 0, none⟩) := hf 3 (by kernel_rfl)
                  refine ⟨.pointer (some ⟨ob, 1, none⟩), w2, ?_, B0 _, fun s _ h => h 149 rfl⟩
                  unfold sl at h0
                  simp at h0
                  simp [go_sem, h0]
                · refine OpFactW.value rfl (FN5G_below _ _ _ _ _ _ _ _ _ _ _ _) hBBP fun L a w2 hl hf D hb => ?_
                  have h0 : sl a 149 = .pointer (some ⟨ob, 1, none⟩) := D 0 (by kernel_rfl)
                  have es := HS.out w2 hb
                  refine ⟨.slice (some ad) nr cr, w2, ?_, B0 _, fun s _ h => h 150 rfl⟩
                  unfold sl at h0
                  simp at h0
                  simp [go_sem, h0, es]
                · refine OpFactW.value rfl (FN5G_below _ _ _ _ _ _ _ _ _ _ _ _) hBBP fun L a w2 hl hf D hb => ?_
                  have h11 : sl a 150 = .slice (some ad) nr cr := D 1 (by kernel_rfl)
                  refine ⟨.int .i64 (nr : Int), w2, ?_, B0 _, fun s _ h => h 151 rfl⟩
                  unfold sl at h11
                  simp at h11
                  simp [go_sem, h11]
                · refine OpFactW.value rfl (FN5G_below _ _ _ _ _ _ _ _ _ _ _ _) hBBP fun L a w2 hl hf D hb => ?_
                  have h11 : sl a 151 = .int .i64 (nr : Int) := D 2 (by kernel_rfl)
                  refine ⟨.int .i64 ((nr : Int) - 1), w2, ?_, B0 _, fun s _ h => h 152 rfl⟩
                  unfold sl at h11
                  simp at h11
                  simp [go_sem, h11, hw1]
                · refine OpFactW.value rfl (FN5G_below _ _ _ _ _ _ _ _ _ _ _ _) hBBP fun L a w2 hl hf D hb => ?_
                  have h0 : sl a 14 = .pointer (some ⟨qb, 0, none⟩) := hf 14 (by kernel_rfl)
                  refine ⟨.pointer (some ⟨qb, 0, none⟩), w2, ?_, B0 _, fun s _ h => h 153 rfl⟩
                  unfold sl at h0
                  simp at h0
                  simp [go_sem, h0]
                · refine OpFactW.value rfl (FN5G_below _ _ _ _ _ _ _ _ _ _ _ _) hBBP fun L a w2 hl hf D hb => ?_
                  have h0 : sl a 153 = .pointer (some ⟨qb, 0, none⟩) := D 4 (by kernel_rfl)
                  have es := HS.out w2 hb
                  refine ⟨.int .i64 (rk : Int), w2, ?_, B0 _, fun s _ h => h 154 rfl⟩
                  unfold sl at h0
                  simp at h0
                  simp [go_sem, h0, es]
                · refine OpFactW.value rfl (FN5G_below _ _ _ _ _ _ _ _ _ _ _ _) hBBP fun L a w2 hl hf D hb => ?_
                  have h11 : sl a 154 = .int .i64 (rk : Int) := D 5 (by kernel_rfl)
                  refine ⟨.slice (some ⟨w2.heap.size, 0, none⟩) 1 1, w2.alloc (.cells #[.int .i64 (rk : Int)] 3), ?_, Ba (B0 w2) _, fun s _ h => ⟨_, h 155 rfl, Blk.new _ _ _⟩⟩
                  unfold sl at h11
                  simp at h11
                  simp [go_sem, h11]
                · refine OpFactW.call rfl (FN5G_below _ _ _ _ _ _ _ _ _ _ _ _) hBBP fun L a w2 hl hf D hb => ?_
                  have h11 : sl a 152 = .int .i64 ((nr : Int) - 1) := D 3 (by kernel_rfl)
                  obtain ⟨g, h12, hk⟩ : oneA w2 (sl a 155) (rk : Int) := D 6 (by kernel_rfl)
                  refine ⟨21, #[.int .i64 0, .int .i64 ((nr : Int) - 1), .slice (some ⟨g, 0, none⟩) 1 1], ?_, (HWA.out g w2 (hk.cell 0) hk.lt).mono ?_⟩
                  · unfold sl at h11 h12
                    simp at h11 h12
                    simp [go_sem, h11, h12]
                  · rintro e w' ⟨rfl, hb3⟩
                    exact ⟨_, rfl, hb3, fun s _ h => h 156 rfl⟩
                · refine OpFactW.value rfl (FN5G_below _ _ _ _ _ _ _ _ _ _ _ _) hBBP fun L a w2 hl hf D hb => ?_
                  have h11 : sl a 156 = .bool true := D 7 (by kernel_rfl)
                  refine ⟨.bool true, w2, ?_, B0 _, fun s _ h => h 157 rfl⟩
                  unfold sl at h11
                  simp at h11
                  simp [go_sem, h11]
                · refine OpFactW.on (g := 8) (d := 157) rfl rfl (fun s w h => h) (by kernel_rfl) fun L a w2 hl hf D hb => OpFactW.wp_value (L := L) (FN5G_below _ _ _ _ _ _ _ _ _ _ _ _) hBBP hb ?_
                  have h0 : sl a 3 = .pointer (some ⟨ob, 0, none⟩) := hf 3 (by kernel_rfl)
                  refine ⟨.pointer (some ⟨ob, 1, none⟩), w2, ?_, B0 _, fun s _ h => h 158 rfl⟩
                  unfold sl at h0
                  simp at h0
                  simp [go_sem, h0]
                · refine OpFactW.on (g := 8) (d := 157) rfl rfl (fun s w h => h) (by kernel_rfl) fun L a w2 hl hf D hb => OpFactW.wp_value (L := L) (FN5G_below _ _ _ _ _ _ _ _ _ _ _ _) hBBP hb ?_
                  have h0 : sl a 158 = .pointer (some ⟨ob, 1, none⟩) := D 9 (by kernel_rfl)
                  have es := HS.out w2 hb
                  refine ⟨.slice (some ad) nr cr, w2, ?_, B0 _, fun s _ h => h 159 rfl⟩
                  unfold sl at h0
                  simp at h0
                  simp [go_sem, h0, es]
                · refine OpFactW.on (g := 8) (d := 157) rfl rfl (fun s w h => h) (by kernel_rfl) fun L a w2 hl hf D hb => OpFactW.wp_value (L := L) (FN5G_below _ _ _ _ _ _ _ _ _ _ _ _) hBBP hb ?_
                  have h0 : sl a 14 = .pointer (some ⟨qb, 0, none⟩) := hf 14 (by kernel_rfl)
                  refine ⟨.pointer (some ⟨qb, 0, none⟩), w2, ?_, B0 _, fun s _ h => h 160 rfl⟩
                  unfold sl at h0
                  simp at h0
                  simp [go_sem, h0]
                · refine OpFactW.on (g := 8) (d := 157) rfl rfl (fun s w h => h) (by kernel_rfl) fun L a w2 hl hf D hb => OpFactW.wp_value (L := L) (FN5G_below _ _ _ _ _ _ _ _ _ _ _ _) hBBP hb ?_
                  have h0 : sl a 160 = .pointer (some ⟨qb, 0, none⟩) := D 11 (by kernel_rfl)
                  have es := HS.out w2 hb
                  refine ⟨.int .i64 (rk : Int), w2, ?_, B0 _, fun s _ h => h 161 rfl⟩
                  unfold sl at h0
                  simp at h0
                  simp [go_sem, h0, es]
                · refine OpFactW.on (g := 8) (d := 157) rfl rfl (fun s w h => h) (by kernel_rfl) fun L a w2 hl hf D hb => OpFactW.wp_value (L := L) (FN5G_below _ _ _ _ _ _ _ _ _ _ _ _) hBBP hb ?_
                  have h11 : sl a 159 = .slice (some ad) nr cr := D 10 (by kernel_rfl)
                  have h12 : sl a 161 = .int .i64 (rk : Int) := D 12 (by kernel_rfl)
                  refine ⟨.pointer (some p), w2, ?_, B0 _, fun s _ h => h 162 rfl⟩
                  unfold sl at h11 h12
                  simp at h11 h12
                  simp [go_sem, h11, h12, hrI, hpA]
                · refine OpFactW.on (g := 8) (d := 157) rfl rfl (fun s w h => h) (by kernel_rfl) fun L a w2 hl hf D hb => OpFactW.wp_value (L := L) (FN5G_below _ _ _ _ _ _ _ _ _ _ _ _) hBBP hb ?_
                  have h11 : sl a 162 = .pointer (some p) := D 13 (by kernel_rfl)
                  refine ⟨.pointer (some ⟨p.block, p.off + 5, none⟩), w2, ?_, B0 _, fun s _ h => h 163 rfl⟩
                  unfold sl at h11
                  simp at h11
                  simp [go_sem, h11]
                · refine OpFactW.on (g := 8) (d := 157) rfl rfl (fun s w h => h) (by kernel_rfl) fun L a w2 hl hf D hb => OpFactW.wp_value (L := L) (FN5G_below _ _ _ _ _ _ _ _ _ _ _ _) hBBP hb ?_
                  have h0 : sl a 163 = .pointer (some ⟨p.block, p.off + 5, none⟩) := D 14 (by kernel_rfl)
                  have es := HS.out w2 hb
                  refine ⟨.slice Aw nw cw, w2, ?_, B0 _, fun s _ h => h 164 rfl⟩
                  unfold sl at h0
                  simp at h0
                  simp [go_sem, h0, es]
                · refine OpFactW.on (g := 8) (d := 157) rfl rfl (fun s w h => h) (by kernel_rfl) fun L a w2 hl hf D hb => OpFactW.wp_value (L := L) (FN5G_below _ _ _ _ _ _ _ _ _ _ _ _) hBBP hb ?_
                  have h11 : sl a 164 = .slice Aw nw cw := D 15 (by kernel_rfl)
                  refine ⟨.int .i64 (nw : Int), w2, ?_, B0 _, fun s _ h => h 165 rfl⟩
                  unfold sl at h11
                  simp at h11
                  simp [go_sem, h11]
                · refine OpFactW.on (g := 8) (d := 157) rfl rfl (fun s w h => h) (by kernel_rfl) fun L a w2 hl hf D hb => OpFactW.wp_value (L := L) (FN5G_below _ _ _ _ _ _ _ _ _ _ _ _) hBBP hb ?_
                  have h11 : sl a 165 = .int .i64 (nw : Int) := D 16 (by kernel_rfl)
                  refine ⟨.int .i64 ((nw : Int) - 1), w2, ?_, B0 _, fun s _ h => h 166 rfl⟩
                  unfold sl at h11
                  simp at h11
                  simp [go_sem, h11, hw2]
                · refine OpFactW.on (g := 8) (d := 157) rfl rfl (fun s w h => h) (by kernel_rfl) fun L a w2 hl hf D hb => OpFactW.wp_value (L := L) (FN5G_below _ _ _ _ _ _ _ _ _ _ _ _) hBBP hb ?_
                  have h0 : sl a 14 = .pointer (some ⟨qb, 0, none⟩) := hf 14 (by kernel_rfl)
                  refine ⟨.pointer (some ⟨qb, 1, none⟩), w2, ?_, B0 _, fun s _ h => h 167 rfl⟩
                  unfold sl at h0
                  simp at h0
                  simp [go_sem, h0]
                · refine OpFactW.on (g := 8) (d := 157) rfl rfl (fun s w h => h) (by kernel_rfl) fun L a w2 hl hf D hb => OpFactW.wp_value (L := L) (FN5G_below _ _ _ _ _ _ _ _ _ _ _ _) hBBP hb ?_
                  have h0 : sl a 167 = .pointer (some ⟨qb, 1, none⟩) := D 18 (by kernel_rfl)
                  have es := HS.out w2 hb
                  refine ⟨.int .i64 num, w2, ?_, B0 _, fun s _ h => h 168 rfl⟩
                  unfold sl at h0
                  simp at h0
                  simp [go_sem, h0, es]
                · refine OpFactW.on (g := 8) (d := 157) rfl rfl (fun s w h => h) (by kernel_rfl) fun L a w2 hl hf D hb => OpFactW.wp_value (L := L) (FN5G_below _ _ _ _ _ _ _ _ _ _ _ _) hBBP hb ?_
                  have h11 : sl a 168 = .int .i64 num := D 19 (by kernel_rfl)
                  refine ⟨.slice (some ⟨w2.heap.size, 0, none⟩) 1 1, w2.alloc (.cells #[.int .i64 num] 3), ?_, Ba (B0 w2) _, fun s _ h => ⟨_, h 169 rfl, Blk.new _ _ _⟩⟩
                  unfold sl at h11
                  simp at h11
                  simp [go_sem, h11]
                · refine OpFactW.on (g := 8) (d := 157) rfl rfl (fun s w h => h) (by kernel_rfl) fun L a w2 hl hf D hb => OpFactW.wp_call (L := L) (FN5G_below _ _ _ _ _ _ _ _ _ _ _ _) hBBP hb ?_
                  have h11 : sl a 166 = .int .i64 ((nw : Int) - 1) := D 17 (by kernel_rfl)
                  obtain ⟨g, h12, hk⟩ : oneA w2 (sl a 169) num := D 20 (by kernel_rfl)
                  refine ⟨21, #[.int .i64 0, .int .i64 ((nw : Int) - 1), .slice (some ⟨g, 0, none⟩) 1 1], ?_, (HWB.out g w2 (hk.cell 0) hk.lt).mono ?_⟩
                  · unfold sl at h11 h12
                    simp at h11 h12
                    simp [go_sem, h11, h12]
                  · rintro e w' ⟨rfl, hb3⟩
                    exact ⟨_, rfl, hb3, fun s _ h => h 170 rfl⟩
                · refine OpFactW.value rfl (FN5G_below _ _ _ _ _ _ _ _ _ _ _ _) hBBP fun L a w2 hl hf D hb => ?_
                  have h11 : sl a 157 = .bool true := D 8 (by kernel_rfl)
                  have h12 : sl a 170 = .bool R := D 21 (by kernel_rfl)
                  refine ⟨.bool R, w2, ?_, B0 _, fun s _ h => h 171 rfl⟩
                  unfold sl at h11 h12
                  simp at h11 h12
                  simp [go_sem, h11, h12]
                · refine OpFactW.value rfl (FN5G_below _ _ _ _ _ _ _ _ _ _ _ _) hBBP fun L a w2 hl hf D hb => ?_
                  have h11 : sl a 171 = .bool R := D 22 (by kernel_rfl)
                  refine ⟨.bool R, w2, ?_, B0 _, fun s _ h => h 2 rfl⟩
                  unfold sl at h11
                  simp at h11
                  simp [go_sem, h11]
                intro L9 y9 w9 hb9 hF9
                have e2 := hF9 23 (by decide) rfl
                simp only [FN5G] at e2
                have HB9 := Lib.hid (show Below wP.heap.size wP w9 from hb9)
                clear hF9 hb9
                rw [aft24 (d0 := 149) (d1 := 150) (d2 := 151) (d3 := 152) (d4 := 153) (d5 := 154) (d6 := 155) (d7 := 156) (d8 := 157) (d9 := 158) (d10 := 159) (d11 := 160) (d12 := 161) (d13 := 162) (d14 := 163) (d15 := 164) (d16 := 165) (d17 := 166) (d18 := 167) (d19 := 168) (d20 := 169) (d21 := 170) (d22 := 171) (d23 := 2) (by kernel_rfl) rfl]
                rw [e2]
                simp only [List.set_cons_succ, List.set_cons_zero]
                refine from_end rfl ?_
                go_wp2_with fail
                go_ret
                exact ⟨by rw [HP0.out]; rfl, Bt HB1.out (Bt HB2.out (Bt HBP.out HB9.out))⟩
end Go.Proofs.YtnfpjcjlapljjaaGreatDoor
