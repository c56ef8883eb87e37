import Derived.Test.YteapmebmgaggcaaDoorPa
import Derived.Test.YteapmebmgaggcaaDoorVi
import Derived.Test.YteapmebmgaggcaaDoorVk0
namespace Go.Proofs.YteapmebmgaggcaaDoor.PW
open Go.RowKit Go.Proofs.YteapmebmgaggcaaDoorW.PrintWords Go.Proofs.YteapmebmgaggcaaDoorW.PrintLast Go.Proofs.YteapmebmgaggcaaDoorW.PrintMore
set_option linter.unusedVariables false
set_option linter.unusedSimpArgs false

/-! #### awake says true -/
theorem byt_dec {l : List Int} (h : bytB l = true) : Byt l := bytB_iff.1 h
theorem awake_val (k : Nat) (hk : 20 < k) : ringroadlaw26_awake.f k = some true := by
  unfold ringroadlaw26_awake.f
  rw [decode_val [82, 82, 1, 3, 1, 0, 0, 0, 6] (byt_dec (by decide)) k (by simp; omega), decode_val [82, 82, 1, 3, 1, 0, 0] (byt_dec (by decide)) k (by simp; omega), decode_val [82, 82, 1, 25, 1, 0, 0, 0] (byt_dec (by decide)) k (by simp; omega)]
  have d1 : decSpec [82, 82, 1, 3, 1, 0, 0, 0, 6] = (3, 1, 0, 0, 0, [z30], 0) := by kernel_rfl
  have d2 : decSpec [82, 82, 1, 3, 1, 0, 0] = (0, 0, 0, 0, 0, [], 7) := by kernel_rfl
  have d3 : decSpec [82, 82, 1, 25, 1, 0, 0, 0] = (0, 0, 0, 0, 0, [], 8) := by kernel_rfl
  rw [d1, d2, d3, Option.bind_some, Option.bind_some, Option.bind_some]
  have he := encode_val ⟨3, 1, 0, 0, 0⟩ [⟨6, 0, 0, 0, 0⟩] (by intro o ho; simp at ho; subst ho; exact ⟨by decide, by decide⟩) k (by simp; omega)
  dsimp only at he ⊢
  rw [he]
  have e1 : encSpec ⟨3, 1, 0, 0, 0⟩ [⟨6, 0, 0, 0, 0⟩] = ([82, 82, 1, 3, 1, 0, 0, 0, 6, 0, 0, 0, 0, 0, 0, 0, 0, 0, 0, 0], 0) := by decide +kernel
  rw [e1, Option.bind_some]
  rfl

/-! #### the same operations -/
theorem ops_l0 : ∀ (n k : Nat) (x : List S30) (i : Nat), x.length = i + n → n < k → x.length < 9223372036854775807 → ringroadlaw26_ops.l0 k x x (i : Int) = some true := by
  intro n
  induction n with
  | zero =>
    intro k x i hl hk hm
    obtain ⟨k, rfl⟩ : ∃ j, k = j + 1 := ⟨k - 1, by omega⟩
    rw [ringroadlaw26_ops.l0, if_neg (by omega)]
  | succ n ih =>
    intro k x i hl hk hm
    obtain ⟨k, rfl⟩ : ∃ j, k = j + 1 := ⟨k - 1, by omega⟩
    have e : wrap64 ((i : Int) + 1) = ((i + 1 : Nat) : Int) := by rw [wz (by omega) (by omega)]; omega
    rw [ringroadlaw26_ops.l0, if_pos (by omega), if_pos (by omega), if_pos (by omega), if_neg (by simp), e]
    exact ih k x (i + 1) (by omega) (by omega) hm
theorem ops_self (x : List S30) (k : Nat) (hk : x.length < k) (hm : x.length < 9223372036854775807) : ringroadlaw26_ops.f k x x = some true := by
  unfold ringroadlaw26_ops.f
  rw [if_pos rfl]
  exact ops_l0 x.length k x 0 (by omega) hk hm
theorem pieces_length : ∀ (n : Nat) (l : List Int), (pieces n l).length ≤ n := by
  intro n
  induction n with
  | zero => intro l; simp [pieces]
  | succ n ih =>
    intro l
    unfold pieces
    split
    · simp
    · have := ih (l.drop 12); simp; omega
end Go.Proofs.YteapmebmgaggcaaDoor.PW
