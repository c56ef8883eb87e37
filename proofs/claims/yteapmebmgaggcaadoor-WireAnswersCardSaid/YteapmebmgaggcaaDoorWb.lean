import Derived.Test.YteapmebmgaggcaaDoorWa
import Derived.LoopN
namespace Go.Proofs.YteapmebmgaggcaaDoor
open Go.RowKit Go.Proofs.YteapmebmgaggcaaDoorW.PrintWords
set_option linter.unusedVariables false
set_option linter.unusedSimpArgs false

def bit01 (b : Bool) (v : Int) : Int := if b then v else 0
def usedV (o : OP) : Int := bit01 (o.a != 0) 1 + bit01 (o.b != 0) 2 + bit01 (o.c != 0) 4 + bit01 (o.w != 0) 8
set_option maxHeartbeats 4000000 in
theorem used_aux (k a b c w : Int) (xa xb xc xw : Bool) (ha : (a != 0) = xa) (hb : (b != 0) = xb) (hc : (c != 0) = xc) (hw : (w != 0) = xw) (W : World) :
    Calls Tryd.prog 27 #[.agg #[.int .i64 k, .int .i64 a, .int .i64 b, .int .i64 c, .int .u64 w]] W fun e w' => e = .returned (.int .i64 (bit01 xa 1 + bit01 xb 2 + bit01 xc 4 + bit01 xw 8)) ∧ Below W.heap.size W w' := by
  cases xa <;> cases xb <;> cases xc <;> cases xw
  all_goals
    go_enter Tryd.func27, Tryd.ntmps27
    go_wp2_with fail
    refine wp_loop_rounds 5 ?_
    rw [rounds_succ]
    go_wp2_with fail
    rw [rounds_succ]
    go_wp2_with fail
    rw [rounds_succ]
    go_wp2_with fail
    rw [rounds_succ]
    go_wp2_with fail
    rw [rounds_succ]
    go_wp2_with fail
    go_ret
    exact ⟨rfl, ((Below.refl _ _).alloc (Nat.le_refl _) _).alloc (by simp) _⟩
theorem used_any (o : OP) (W : World) : Calls Tryd.prog 27 #[o.val] W fun e w' => e = .returned (.int .i64 (usedV o)) ∧ Below W.heap.size W w' :=
  used_aux o.k o.a o.b o.c o.w _ _ _ _ rfl rfl rfl rfl W
end Go.Proofs.YteapmebmgaggcaaDoor
