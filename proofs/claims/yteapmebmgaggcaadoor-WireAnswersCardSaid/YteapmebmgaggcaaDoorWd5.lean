import Derived.Test.YteapmebmgaggcaaDoorWc
namespace Go.Proofs.YteapmebmgaggcaaDoor
open Go.RowKit Go.Proofs.YteapmebmgaggcaaDoorW.PrintWords Go.Sort
set_option linter.unusedVariables false
set_option linter.unusedSimpArgs false

set_option maxHeartbeats 20000000 in
/-- 'wire.May'. -/
theorem may_hi (k a b c x : Int) (w : World) (hn : NeedsOk w) (h1 : 1 ≤ k) (h2 : ¬ k ≤ 14) : Calls Tryd.prog 12 #[.agg #[.int .i64 k, .int .i64 a, .int .i64 b, .int .i64 c, .int .u64 x]] w fun e w' => e = .returned (.bool false) ∧ Below w.heap.size w w' := by
  have hus := fun W => used_any ⟨k, a, b, c, x⟩ W
  have hmb := may_bits ⟨k, a, b, c, x⟩
  unfold OP.val at hus
  dsimp only at hus hmb
  clear hus hmb hn
  go_enter Tryd.func12, Tryd.ntmps12
  go_wp2_with fail
  go_ret
  exact ⟨rfl, (Below.refl _ _).alloc (Nat.le_refl _) _⟩

set_option maxHeartbeats 20000000 in
/-- 'wire.May'. -/
theorem may_lo (k a b c x : Int) (w : World) (hn : NeedsOk w) (h1 : ¬ 1 ≤ k) : Calls Tryd.prog 12 #[.agg #[.int .i64 k, .int .i64 a, .int .i64 b, .int .i64 c, .int .u64 x]] w fun e w' => e = .returned (.bool false) ∧ Below w.heap.size w w' := by
  have hus := fun W => used_any ⟨k, a, b, c, x⟩ W
  have hmb := may_bits ⟨k, a, b, c, x⟩
  unfold OP.val at hus
  dsimp only at hus hmb
  clear hus hmb hn
  go_enter Tryd.func12, Tryd.ntmps12
  go_wp2_with fail
  go_ret
  exact ⟨rfl, (Below.refl _ _).alloc (Nat.le_refl _) _⟩
end Go.Proofs.YteapmebmgaggcaaDoor
