/- Plain: right covering problems; unions by lists and by words. -/
import Derived.Test.YtnpdoejjebgcpaaPu
namespace Go.Proofs.Ytnpdoejjebgcpaa
open Go Go.RowKit
theorem setsV_ok (n : Nat) (hn : n ≤ 40) : ∀ (ls : List (List Int × Int)), setsV n ls = 0 → ∃ (ws : List Nat) (cs : List Int), ls = covL ws cs ∧ cs.length = ws.length ∧ (∀ s ∈ ws, s < 2 ^ n) ∧ ∀ c ∈ cs, 1 ≤ c ∧ c ≤ 1000000
  | [], _ => ⟨[], [], rfl, rfl, by simp, by simp⟩
  | s :: r, h => by
    rw [setsV_cons] at h
    by_cases h1 : riseF n s.1 = 0
    · rw [if_neg (by simpa using h1)] at h
      by_cases h2 : s.2 < 1 ∨ s.2 > 1000000
      · rw [if_pos h2] at h; cases h
      · rw [if_neg h2] at h
        obtain ⟨ws, cs, q1, q2, q3, q4⟩ := setsV_ok n hn r h
        obtain ⟨ns, e1, e2, e3⟩ := Hit.listF_ok ((rise_zero _ _).1 h1)
        have h64 : ∀ x ∈ ns, x < 64 := fun x hx => by have := e3 x hx; omega
        refine ⟨Hit.word ns :: ws, s.2 :: cs, ?_, by simp [q2], fun x hx => ?_, fun x hx => ?_⟩
        · unfold covL
          rw [List.zipWith_cons_cons, Hit.members_word e2 h64, ← e1]
          rw [show List.zipWith (fun s c => (Hit.ints (Hit.members s), c)) ws cs = r from q1.symm]
        · rcases List.mem_cons.1 hx with rfl | hx
          · exact Hit.word_lt fun x hx => by have := e3 x hx; omega
          · exact q3 x hx
        · rcases List.mem_cons.1 hx with rfl | hx
          · omega
          · exact q4 x hx
    · rw [if_pos h1] at h; exact absurd h h1
theorem checkV_ok {n : Int} {ls : List (List Int × Int)} (h : checkV n ls = 0) : ∃ (m : Nat) (ws : List Nat) (cs : List Int), n = m ∧ ls = covL ws cs ∧ Cov m ws cs := by
  unfold checkV at h
  by_cases h1 : n < 0
  · rw [if_pos h1] at h; cases h
  · rw [if_neg h1] at h
    by_cases h2 : n > 40 ∨ ls.length > 40
    · rw [if_pos h2] at h; cases h
    · rw [if_neg h2] at h
      obtain ⟨m, rfl⟩ := Int.eq_ofNat_of_zero_le (show 0 ≤ n by omega)
      obtain ⟨ws, cs, q1, q2, q3, q4⟩ := setsV_ok m (by omega) ls h
      refine ⟨m, ws, cs, rfl, q1, by omega, ?_, q2, q3, q4⟩
      have : ls.length = ws.length := by rw [q1, covL_length q2]
      omega
theorem unionL_test (ws ns : List Nat) (b : Nat) : (unionL ws ns).testBit b = ns.any fun k => (ws.getD k 0).testBit b := by
  have key : ∀ (ns : List Nat) (a : Nat), (ns.foldl (fun w i => w ||| ws.getD i 0) a).testBit b = (a.testBit b || ns.any fun k => (ws.getD k 0).testBit b) := by
    intro ns
    induction ns with
    | nil => intro a; simp
    | cons x r ih => intro a; rw [List.foldl_cons, ih, Nat.testBit_or, List.any_cons, Bool.or_assoc]
  unfold unionL
  rw [key]; simp
theorem union_same (ws ns : List Nat) (hn : ∀ x ∈ ns, x < ws.length) : Hit.unionW ws (Hit.word ns) = unionL ws ns := Nat.eq_of_testBit_eq fun b => by
  rw [Hit.unionW_test, unionL_test, Bool.eq_iff_iff, List.any_eq_true, List.any_eq_true]
  constructor
  · rintro ⟨k, hk, h⟩
    rw [Bool.and_eq_true, Hit.word_test] at h
    exact ⟨k, by simpa using h.1, h.2⟩
  · rintro ⟨k, hk, h⟩
    exact ⟨k, List.mem_range.2 (hn k hk), by rw [Bool.and_eq_true, Hit.word_test]; exact ⟨by simpa using hk, h⟩⟩
end Go.Proofs.Ytnpdoejjebgcpaa
