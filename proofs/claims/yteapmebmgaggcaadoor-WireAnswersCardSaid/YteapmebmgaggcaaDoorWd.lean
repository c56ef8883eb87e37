import Derived.Test.YteapmebmgaggcaaDoorWd1
import Derived.Test.YteapmebmgaggcaaDoorWd2
import Derived.Test.YteapmebmgaggcaaDoorWd3
import Derived.Test.YteapmebmgaggcaaDoorWd4
import Derived.Test.YteapmebmgaggcaaDoorWd5
namespace Go.Proofs.YteapmebmgaggcaaDoor
open Go.RowKit
/-- 'wire.May'. -/
theorem wmay_any (o : OP) (w : World) (hn : NeedsOk w) : Calls Tryd.prog 12 #[o.val] w fun e w' => e = .returned (.bool (mayB o)) ∧ Below w.heap.size w w' := by
  obtain ⟨k, a, b, c, x⟩ := o
  have hno : ¬ (1 ≤ k ∧ k ≤ 14 ∧ 0 ≤ a ∧ a ≤ 255 ∧ 0 ≤ b ∧ b ≤ 255 ∧ 0 ≤ c ∧ c ≤ 255) → mayB ⟨k, a, b, c, x⟩ = false := fun h => by unfold mayB; rw [decide_eq_false h]; rfl
  by_cases h1 : 1 ≤ k
  · by_cases h2 : k ≤ 14
    · by_cases h3 : 0 ≤ a ∧ a ≤ 255
      · by_cases h4 : 0 ≤ b ∧ b ≤ 255
        · by_cases h5 : 0 ≤ c ∧ c ≤ 255
          · rw [show mayB ⟨k, a, b, c, x⟩ = mayK k (a != 0) (b != 0) (c != 0) (x != 0) from by unfold mayB; rw [decide_eq_true (by dsimp only; omega)]; rfl]
            exact may_true k a b c x w hn h1 h2 h3 h4 h5
          · rw [hno (by omega)]; exact may_c k a b c x w hn h1 h2 h3 h4 h5
        · rw [hno (by omega)]; exact may_b k a b c x w hn h1 h2 h3 h4
      · rw [hno (by omega)]; exact may_a k a b c x w hn h1 h2 h3
    · rw [hno (by omega)]; exact may_hi k a b c x w hn h1 h2
  · rw [hno (by omega)]; exact may_lo k a b c x w hn h1
end Go.Proofs.YteapmebmgaggcaaDoor
