/- What a plan's action is, once made. -/
import Derived.Test.YtahlfndlkfoikaaDoorQ3
import Derived.Test.YtahlfndlkfoikaaDoorKw
import Derived.Test.YtahlfndlkfoikaaDoorKv
namespace Go.Proofs.YtahlfndlkfoikaaDoor
open Go Go.RowKit Go.Shelf
theorem makeF_cps {p : Cou.Pl} : (Cou.makeF p).cps.length ≤ 4 := by
  show (Cou.cpsL _ 0 (p.links.take 4)).length ≤ 4
  rw [Cou.cpsL_len, List.length_take]; omega
theorem makeF_drawn {p : Cou.Pl} (hp : PlOk p) : (Cou.makeF p).drawn < 2 ^ 64 := by
  have h1 : p.drawn &&& (2 ^ (p.links.take 4).length - 1) ≤ p.drawn := Nat.and_le_left
  have := hp.drawn
  show p.drawn &&& (2 ^ (p.links.take 4).length - 1) < _
  omega
theorem makeF_divs {p : Cou.Pl} : (∀ c ∈ (Cou.makeF p).divs, c.2 ≤ c.1 + 12) ∧ (Cou.makeF p).divs.length ≤ 3 := by
  refine ⟨fun c hc => ?_, ?_⟩
  · have : c ∈ (p.dv.take (Cou.makeN p)).map Cou.divOf := hc
    obtain ⟨d, _, rfl⟩ := List.mem_map.1 this
    unfold Cou.divOf
    simp only
    omega
  · show ((p.dv.take (Cou.makeN p)).map Cou.divOf).length ≤ 3
    rw [List.length_map, List.length_take]
    unfold Cou.makeN
    omega
theorem makeF_pos {p : Cou.Pl} (h : p.dv.length = 3) : 1 ≤ (Cou.makeF p).divs.length := by
  show 1 ≤ ((p.dv.take (Cou.makeN p)).map Cou.divOf).length
  rw [List.length_map, List.length_take]
  unfold Cou.makeN
  omega
theorem slCt_on1 {w w' : World} {v : Value} {l : List Cou.Ct} (h : SlCt (fun b => b < w.heap.size) w v l) (hb : Below w.heap.size w w') : SlCt (fun b => b < w'.heap.size) w' v l :=
  Sl.mono (SlCt.keep h (Agree.below hb fun _ q => q)) fun _ q => Nat.lt_of_lt_of_le q hb.size
end Go.Proofs.YtahlfndlkfoikaaDoor
