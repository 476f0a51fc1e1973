/- Words for drawn regions: a call that makes memory, its result a plain value. -/
import Derived.Test.YtiochodepgldpaaDoorH7
import Derived.BigQuiet
import Derived.BigGuardPart
namespace Go.Proofs.YtiochodepgldpaaDoor
open Go Go.RowKit
theorem wp_region_class_lit {P : Program} {C : World → Prop} {id : Nat} {Q : Exit → Act → World → Prop} {a : Act} {w : World} {l : List Oper} (hm : P.follows .mixedOrders = true) (hB : Region.lexB .any l.toArray = true) (hC : C { w with drawn := w.drawn + 1 })
    (h : wpQuiet P l.toArray C (fun a' => ∀ w', C w' → Q .normal a' w') l a) : (Code.region id l.toArray true).wp P Q a w :=
  wp_region_quiet (C := C) hm hB hC (by simpa using h)
/-- The worlds that leave all that was in w1. -/
def Cls (w1 : World) : Type := { x : World // Below w1.heap.size w1 x }
def Cls.w {w1 : World} (q : Cls w1) : World := q.1
theorem Cls.b {w1 : World} (q : Cls w1) : Below w1.heap.size w1 q.w := q.2
def Cls.mk' {w1 w : World} (h : Below w1.heap.size w1 w) : Cls w1 := ⟨w, h⟩
instance (w1 : World) : Nonempty (Cls w1) := ⟨⟨w1, Below.refl _ _⟩⟩
end Go.Proofs.YtiochodepgldpaaDoor
