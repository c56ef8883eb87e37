import Derived.Test.YteapmebmgaggcaaDoorWb
import Derived.Lib.QuietBelow
namespace Go.Proofs.YteapmebmgaggcaaDoor
open Go.RowKit Go.Proofs.YteapmebmgaggcaaDoorW.PrintWords Go.Sort
set_option linter.unusedVariables false
set_option linter.unusedSimpArgs false

/-- What the table 'needs' holds. -/
def needT : List Int := [-1, 15, 1, 1, 1, 9, 0, 1, 9, 1, 3, 3, 9, 8, 0]
def NeedsOk (w : World) : Prop := 0 < w.heap.size ∧ ∀ i, i < 15 → w.cell? ⟨0, i, none⟩ = some (.int .i64 (needT.getD i 0))
theorem NeedsOk.below {B : Nat} {w W : World} (h : NeedsOk w) (hb : Below B w W) (hB : 0 < B) : NeedsOk W :=
  ⟨Nat.lt_of_lt_of_le h.1 hb.size, fun i hi => (hb.cell (p := ⟨0, i, none⟩) hB).trans (h.2 i hi)⟩
def mayK (k : Int) (xa xb xc xw : Bool) : Bool := (decide (k ≠ 6 ∧ k ≠ 13 ∧ k ≠ 14) || !xa) && (decide (k = 1 ∨ k = 10 ∨ k = 11) || !xb) && (decide (k = 1) || !xc) && (decide (k = 1 ∨ k = 5 ∨ k = 8 ∨ k = 12 ∨ k = 13) || !xw)
def mayB (o : OP) : Bool := decide (1 ≤ o.k ∧ o.k ≤ 14 ∧ 0 ≤ o.a ∧ o.a ≤ 255 ∧ 0 ≤ o.b ∧ o.b ≤ 255 ∧ 0 ≤ o.c ∧ o.c ≤ 255) && mayK o.k (o.a != 0) (o.b != 0) (o.c != 0) (o.w != 0)
theorem may_bits_all : ∀ (k : Fin 15) (xa xb xc xw : Bool), 1 ≤ k.val → (bits .andNot .i64 (bit01 xa 1 + bit01 xb 2 + bit01 xc 4 + bit01 xw 8) (needT.getD k.val 0) == 0) = mayK (k.val : Int) xa xb xc xw := by decide +kernel
theorem may_bits (o : OP) (n : Nat) (hk : o.k = n) (h1 : 1 ≤ n) (h2 : n ≤ 14) : (bits .andNot .i64 (usedV o) (needT.getD n 0) == 0) = mayK o.k (o.a != 0) (o.b != 0) (o.c != 0) (o.w != 0) := by
  rw [hk]
  exact may_bits_all ⟨n, by omega⟩ (o.a != 0) (o.b != 0) (o.c != 0) (o.w != 0) h1
theorem grown_call {P : Program} {f : FuncId} {args : Array Value} {w : World} {v : Value} (h : ∀ W, Calls P f args W fun e w' => e = .returned v ∧ Below W.heap.size W w') (d : Nat) (os : Array Obj) :
    Calls P f args (grow (redrawn w d) os) fun e w'' => e = .returned v ∧ ∃ p : Regrown, w'' = grow (redrawn w p.d) p.os := Calls.regrown_of (h _)
theorem within_yesB (n m : Int) (h : 0 ≤ n) (h1 : n ≤ m) (W : World) : Calls Tryd.prog 26 #[.int .i64 n, .int .i64 m] W fun e w' => e = .returned (.bool true) ∧ Below W.heap.size W w' :=
  (within_yes n m W h h1).mono fun e w' ⟨h1, h2⟩ => ⟨h1, by rw [← h2]; exact Below.refl _ _⟩
theorem within_noB (n m : Int) (h : ¬ (0 ≤ n ∧ n ≤ m)) (W : World) : Calls Tryd.prog 26 #[.int .i64 n, .int .i64 m] W fun e w' => e = .returned (.bool false) ∧ Below W.heap.size W w' :=
  (within_no n m W h).mono fun e w' ⟨h1, h2⟩ => ⟨h1, by rw [← h2]; exact Below.refl _ _⟩
end Go.Proofs.YteapmebmgaggcaaDoor
