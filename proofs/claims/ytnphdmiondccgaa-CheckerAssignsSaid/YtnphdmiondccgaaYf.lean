/- Walks over slices at ints: Concat of two. Walks over matching: the total of an assignment. -/
import Derived.Test.YtnphdmiondccgaaYd
import Derived.Test.YtnphdmiondccgaaSg
import Derived.Deep.CutRange
namespace Go.Proofs.Ytnphdmiondccgaa
open Go Go.RowKit Go.Shelf
theorem elemIn : ElemN Try.prog 26 3 1 8 := ⟨Try.underlying26, by
  obtain ⟨i, hi, hz, hs, hb⟩ := info_parts infoIn
  exact ⟨i, _, hi, hz, hs, hb, rfl⟩⟩
def inCs (l : List Int) : List Value := l.map (Value.int .i64)
theorem flat_in : ∀ (cs : List (List Value)) (l : List Int), cs.length = l.length → (∀ i (hi : i < l.length), ∃ x, cs[i]? = some x ∧ x = [.int .i64 l[i]]) → cs.flatten = inCs l
  | [], [], _, _ => rfl
  | [], _ :: _, h, _ => by simp at h
  | _ :: _, [], h, _ => by simp at h
  | x :: cs, c :: l, h, hr => by
    obtain ⟨y, h1, h2⟩ := hr 0 (by simp)
    injection h1 with h1
    subst h1
    have := flat_in cs l (by simpa using h) fun i hi => by
      obtain ⟨y, q1, q2⟩ := hr (i + 1) (by simpa using hi)
      exact ⟨y, by simpa using q1, by simpa using q2⟩
    simp [List.flatten_cons, this, h2, inCs]
theorem SlI.reads {F : Nat → Prop} {w : World} {A : Option Addr} {n c B : Nat} {l : List Int} (h : SlI F w (.slice A n c) l) (hF : ∀ b, F b → b < B) : Reads w B 1 A n (inCs l) := by
  obtain ⟨cs, h1, h2, h3⟩ := Sl.cells h hF
  rwa [flat_in cs l h1 fun i hi => by obtain ⟨x, q1, _, q3⟩ := h2 i hi; exact ⟨x, q1, q3⟩] at h3
theorem slI_ownB {w : World} {base : Nat} {v : Value} {l : List Int} (h : w.ownsRow base 3 1 v l.length (inCs l)) (hl : l.length ≤ 140737488355328) : SlI (fun b => base ≤ b ∧ b < w.heap.size) w v l := by
  refine Sl.of_own (cs := l.map fun x => [.int .i64 x]) h rfl hl ?_ (by simp) (fun i hi => ⟨[.int .i64 l[i]], by simp [hi], rfl, rfl⟩) fun b h1 h2 _ => ⟨h1, h2⟩
  clear h hl
  induction l with
  | nil => rfl
  | cons x l ih => simpa [inCs] using ih
theorem inCs_one (l : List Int) : ∀ u ∈ inCs l, u.oneCell' = true := fun u hu => by
  obtain ⟨x, -, rfl⟩ := List.mem_map.1 hu
  rfl
theorem inCs_len (l : List Int) : (inCs l).length = l.length := by simp [inCs]
theorem wpList_appM {P : Program} {w : World} {ops : Array Oper} {rest : List Oper} {o : Oper} {a : Act} {Q : Exit → Act → World → Prop} {t e : TypeId} {k bytes : Nat} (E : ElemN P t e k bytes) (hk : 0 < k) (hgd : o.guard = none) (s x : Operand)
    (ho : o.op = .call { callee := .builtin .append, args := #[s, x], argTypes := #[t, t] })
    (base : Nat) (v : Value) (n : Nat) (xs : List Value) (hs : a.eval s = v) (hown : w.ownsRow base e k v n xs)
    (B : Nat) (A : Option Addr) (m c : Nat) (news : List Value) (hx : a.eval x = .slice A m c) (hr : Reads w B k A m news) (h1 : ∀ u ∈ news, u.oneCell' = true)
    (hn : n + m ≤ 1000000000) (hb : bytes ≤ 1000) (hbase : base ≤ w.heap.size)
    (h : ∀ v' w', w'.ownsRow base e k v' (n + m) (xs ++ news) → w.grownBy w' v.ownBlock → (v'.ownBlock = v.ownBlock ∨ v'.ownBlock = some w.heap.size) → wpList P ops Q rest (a.put o.dst v') w') : wpList P ops Q (o :: rest) a w := by
  obtain ⟨ht, i, z, hi, hz, hsz, hby, hzs⟩ := E
  exact wpList_append_any w hgd s x t ho base e i z k bytes ht hi hz hsz hby hzs hk v n xs hs hown B A m c news hx hr h1 (by unfold maxLen; omega)
    (by have : (n + m) * bytes ≤ 1000000000 * 1000 := Nat.mul_le_mul hn hb
        omega) hbase h
/-- slices.Grow(nil, n) -/
theorem growI_any (n : Nat) (hn : n ≤ 1000000) (w : World) : Calls Try.prog 40 #[.slice none 0 0, .int .i64 n] w fun e w' => ∃ v, e = .returned v ∧ w'.ownsRow w.heap.size 3 1 v 0 [] ∧ Below w.heap.size w w' := by
  by_cases h0 : n = 0
  · subst h0
    refine (Any8.slices_Grow_room Try.growI none 0 0 0 w (by omega) (by omega) (by omega) (by omega)).mono ?_
    rintro e w' ⟨rfl, rfl⟩
    exact ⟨_, rfl, World.ownsRow_nil _ _ _ _, B0 _⟩
  · obtain ⟨i, hi, hz, hs, hb⟩ := info_parts infoIn
    refine (Any8.slices_Grow_grow Try.growI i _ hi hz (by omega) none 0 0 n [] w (by omega) (by omega) (by rw [hb]; omega) (by omega) (by simp) (fun _ => rfl) (fun a h => by cases h)).mono ?_
    rintro e w' ⟨rfl, rfl⟩
    have hg := grownCap_ge w (0 + n) 0 (Try.growI_ren.t 25)
    have hg2 := grownCap_le_maxLen w (0 + n) 0 (Try.growI_ren.t 25) (by unfold maxLen; omega)
    refine ⟨_, rfl, ⟨by simp, .inr ⟨w.heap.size, _, _, rfl, Nat.le_refl _, heap_alloc_new w.drew _, Nat.zero_le _, hg2, ?_, by simp⟩⟩, Ba (B0 w).drew _⟩
    simp only [Nat.zero_add] at hg
    simp [Builtin.zeroCells, Value.cells]
    omega
set_option maxRecDepth 100000 in
set_option maxHeartbeats 2000000 in
theorem concat_any (x1 x2 : Option Addr) (a1 a2 c1 c2 : Nat) (xs ys : List Int) (hx : xs.length = a1) (hy : ys.length = a2) (hb : a1 + a2 ≤ 100000) (g : Nat) (w : World) (F : Nat → Prop) (hF : ∀ b, F b → b < w.heap.size)
    (hB : Blk w g 26 #[.slice x1 a1 c1, .slice x2 a2 c2]) (h1 : SlI F w (.slice x1 a1 c1) xs) (h2 : SlI F w (.slice x2 a2 c2) ys) :
    Calls Try.prog 38 #[.slice (some ⟨g, 0, none⟩) 2 2] w fun e w' => ∃ v, e = .returned v ∧ SlI (fun b => b < w'.heap.size) w' v (xs ++ ys) ∧ Below w.heap.size w w' := by
  have k0 := hB.cell 0
  have k1 := hB.cell 1
  simp only [List.getElem?_toArray, List.getElem?_cons_zero, List.getElem?_cons_succ] at k0 k1
  have r1 := h1.reads hF
  have r2 := h2.reads hF
  obtain ⟨N, hN⟩ : ∃ N, a1 + a2 = N := ⟨_, rfl⟩
  have eN : (a1 : Int) + a2 = N := by omega
  have HR1 := Lib.hid r1
  have HR2 := Lib.hid r2
  have HX := Lib.hid hx
  have HY := Lib.hid hy
  have HB := Lib.hid hB
  have HG := Lib.hid (fun W => growI_any N (by omega) W)
  clear r1 r2 hx hy h1 h2 hB
  go_enter Try.func38, Try.ntmps38
  go_wp2_with fail
  go_loopg [3, 11] 2 (fun gg s3 s11 wr => wr = w ∧ ((2 ≤ gg ∧ s11 = .int .i64 0 ∧ s3 = .int .i64 0) ∨ (1 ≤ gg ∧ s11 = .int .i64 1 ∧ s3 = .int .i64 a1) ∨ (s11 = .int .i64 2 ∧ s3 = .int .i64 N)))
  case atStart => exact ⟨rfl, .inl ⟨by omega, rfl, rfl⟩⟩
  case round =>
    obtain ⟨rfl, ⟨hg, rfl, rfl⟩ | ⟨hg, rfl, rfl⟩ | ⟨rfl, rfl⟩⟩ := hrel
    · go_wp2_with fail
      go_roundg 1
      case measure => omega
      case rel => exact ⟨rfl, .inr (.inl ⟨by omega, rfl, by go_num⟩)⟩
    · go_wp2_with fail
      go_roundg 0
      case measure => omega
      case rel => exact ⟨rfl, .inr (.inr ⟨rfl, by go_num⟩)⟩
    · obtain ⟨wo, rfl⟩ : ∃ wo : World, wo = wr := ⟨_, rfl⟩
      go_wp2_with (go_at_call 40; (with_reducible refine ((HG.out _).mono ?_)); rintro e w2 ⟨v2, rfl, ho2, hb2⟩; have HO2 := Lib.hid ho2; have HB2 := Lib.hid hb2; clear ho2 hb2)
      clear k0 k1
      have HKB := Lib.hid (HB.out.below HB2.out HB.out.lt)
      go_loopg [6, 27] 2 (fun gg s6 s27 wr => Aside (Below wo.heap.size wo wr) ∧ ((2 ≤ gg ∧ s27 = .int .i64 0 ∧ Aside (wr.ownsRow wo.heap.size 3 1 s6 0 [])) ∨ (1 ≤ gg ∧ s27 = .int .i64 1 ∧ Aside (wr.ownsRow wo.heap.size 3 1 s6 a1 (inCs xs))) ∨ (s27 = .int .i64 2 ∧ Aside (wr.ownsRow wo.heap.size 3 1 s6 (a1 + a2) (inCs xs ++ inCs ys)))))
      case atStart => exact ⟨HB2.out, .inl ⟨by omega, rfl, HO2.out⟩⟩
      case round =>
        clear HO2 HB2 HKB
        obtain ⟨HBr, hrr⟩ := hrel
        replace HBr : Hid (Below wo.heap.size wo wr) := Lib.hid HBr
        have HKB := Lib.hid (HB.out.below HBr.out HB.out.lt)
        have k0 := HKB.out.cell 0
        have k1 := HKB.out.cell 1
        simp only [List.getElem?_toArray, List.getElem?_cons_zero, List.getElem?_cons_succ] at k0 k1
        obtain ⟨hg, rfl, HO⟩ | ⟨hg, rfl, HO⟩ | ⟨rfl, HO⟩ := hrr
        · replace HO : Hid (wr.ownsRow wo.heap.size 3 1 u6 0 []) := Lib.hid HO
          go_wp2_with (at_builtin; refine wpList_appM elemIn (by omega) rfl _ _ rfl wo.heap.size _ 0 [] rfl HO.out wo.heap.size x1 a1 c1 (inCs xs) rfl (HR1.out.below HBr.out) (inCs_one xs) (by omega) (by omega) HBr.out.size ?_; intro v5 w5 hown hgr hgg; have HOW := Lib.hid hown; have HG5 := Lib.hid hgr; clear hown hgr hgg)
          go_roundg 1
          case measure => omega
          case rel => exact ⟨Bg HBr.out HO.out (Nat.le_refl _) HG5.out, .inr (.inl ⟨by omega, rfl, by have := HOW.out; rw [Nat.zero_add, List.nil_append] at this; exact this⟩)⟩
        · replace HO : Hid (wr.ownsRow wo.heap.size 3 1 u6 a1 (inCs xs)) := Lib.hid HO
          go_wp2_with (at_builtin; refine wpList_appM elemIn (by omega) rfl _ _ rfl wo.heap.size _ a1 (inCs xs) rfl HO.out wo.heap.size x2 a2 c2 (inCs ys) rfl (HR2.out.below HBr.out) (inCs_one ys) (by omega) (by omega) HBr.out.size ?_; intro v5 w5 hown hgr hgg; have HOW := Lib.hid hown; have HG5 := Lib.hid hgr; clear hown hgr hgg)
          go_roundg 0
          case measure => omega
          case rel => exact ⟨Bg HBr.out HO.out (Nat.le_refl _) HG5.out, .inr (.inr ⟨rfl, HOW.out⟩)⟩
        · replace HO : Hid (wr.ownsRow wo.heap.size 3 1 u6 (a1 + a2) (inCs xs ++ inCs ys)) := Lib.hid HO
          go_wp2_with fail
          go_ret
          have h := HO.out
          rw [show a1 + a2 = (xs ++ ys).length by rw [List.length_append, HX.out, HY.out], show inCs xs ++ inCs ys = inCs (xs ++ ys) by simp [inCs]] at h
          exact ⟨_, rfl, (slI_ownB h (by rw [List.length_append, HX.out, HY.out]; omega)).mono fun b h => h.2, HBr.out⟩
end Go.Proofs.Ytnphdmiondccgaa
