import Derived.Test.YteapmebmgaggcaaDoorWc
namespace Go.Proofs.YteapmebmgaggcaaDoor
open Go.RowKit Go.Proofs.YteapmebmgaggcaaDoorW.PrintWords
set_option linter.unusedVariables false
set_option linter.unusedSimpArgs false

set_option maxHeartbeats 4000000 in
/-- 'ringroadref26.May'. -/
theorem rmay_any (o : OP) (w : World) : Calls Tryd.prog 13 #[o.val] w fun e w' => e = .returned (.bool (mayB o)) ∧ Below w.heap.size w w' := by
  obtain ⟨k, a, b, c, x⟩ := o
  unfold OP.val
  dsimp only
  by_cases h0 : 1 ≤ k ∧ k ≤ 14
  · by_cases h3 : 0 ≤ a ∧ a ≤ 255
    · by_cases h4 : 0 ≤ b ∧ b ≤ 255
      · by_cases h5 : 0 ≤ c ∧ c ≤ 255
        · rcases (show k = 1 ∨ k = 5 ∨ k = 8 ∨ k = 12 ∨ k = 10 ∨ k = 11 ∨ k = 13 ∨ k = 6 ∨ k = 14 ∨ ((((((((k ≠ 1 ∧ k ≠ 5) ∧ k ≠ 8) ∧ k ≠ 12) ∧ k ≠ 10) ∧ k ≠ 11) ∧ k ≠ 13) ∧ k ≠ 6) ∧ k ≠ 14) by omega) with rfl | rfl | rfl | rfl | rfl | rfl | rfl | rfl | rfl | ⟨⟨⟨⟨⟨⟨⟨⟨n1, n5⟩, n8⟩, n12⟩, n10⟩, n11⟩, n13⟩, n6⟩, n14⟩
          · have hb := Lib.hid (show mayB ⟨1, a, b, c, x⟩ = true from by unfold mayB; rw [decide_eq_true (by dsimp only; omega)]; unfold mayK; simp [*])
            rw [hb.out]
            clear hb
            go_enter Tryd.func13, Tryd.ntmps13
            go_wp2_with (go_at_call 25; first | (refine (in_yes _ _ _ _ (by omega) (by omega)).mono ?_; rintro e w' ⟨rfl, rfl⟩) | (refine (in_no _ _ _ _ (by omega)).mono ?_; rintro e w' ⟨rfl, rfl⟩))
            go_ret
            exact ⟨rfl, (Below.refl _ _).alloc (Nat.le_refl _) _⟩
          · by_cases zb : b = 0
            · by_cases zc : c = 0
              · have hb := Lib.hid (show mayB ⟨5, a, b, c, x⟩ = true from by unfold mayB; rw [decide_eq_true (by dsimp only; omega)]; unfold mayK; simp [*])
                rw [hb.out]
                clear hb
                go_enter Tryd.func13, Tryd.ntmps13
                go_wp2_with (go_at_call 25; first | (refine (in_yes _ _ _ _ (by omega) (by omega)).mono ?_; rintro e w' ⟨rfl, rfl⟩) | (refine (in_no _ _ _ _ (by omega)).mono ?_; rintro e w' ⟨rfl, rfl⟩))
                go_ret
                exact ⟨rfl, (Below.refl _ _).alloc (Nat.le_refl _) _⟩
              · have hb := Lib.hid (show mayB ⟨5, a, b, c, x⟩ = false from by unfold mayB; rw [decide_eq_true (by dsimp only; omega)]; unfold mayK; simp [*])
                rw [hb.out]
                clear hb
                go_enter Tryd.func13, Tryd.ntmps13
                go_wp2_with (go_at_call 25; first | (refine (in_yes _ _ _ _ (by omega) (by omega)).mono ?_; rintro e w' ⟨rfl, rfl⟩) | (refine (in_no _ _ _ _ (by omega)).mono ?_; rintro e w' ⟨rfl, rfl⟩))
                go_ret
                exact ⟨rfl, (Below.refl _ _).alloc (Nat.le_refl _) _⟩
            · have hb := Lib.hid (show mayB ⟨5, a, b, c, x⟩ = false from by unfold mayB; rw [decide_eq_true (by dsimp only; omega)]; unfold mayK; simp [*])
              rw [hb.out]
              clear hb
              go_enter Tryd.func13, Tryd.ntmps13
              go_wp2_with (go_at_call 25; first | (refine (in_yes _ _ _ _ (by omega) (by omega)).mono ?_; rintro e w' ⟨rfl, rfl⟩) | (refine (in_no _ _ _ _ (by omega)).mono ?_; rintro e w' ⟨rfl, rfl⟩))
              go_ret
              exact ⟨rfl, (Below.refl _ _).alloc (Nat.le_refl _) _⟩
          · by_cases zb : b = 0
            · by_cases zc : c = 0
              · have hb := Lib.hid (show mayB ⟨8, a, b, c, x⟩ = true from by unfold mayB; rw [decide_eq_true (by dsimp only; omega)]; unfold mayK; simp [*])
                rw [hb.out]
                clear hb
                go_enter Tryd.func13, Tryd.ntmps13
                go_wp2_with (go_at_call 25; first | (refine (in_yes _ _ _ _ (by omega) (by omega)).mono ?_; rintro e w' ⟨rfl, rfl⟩) | (refine (in_no _ _ _ _ (by omega)).mono ?_; rintro e w' ⟨rfl, rfl⟩))
                go_ret
                exact ⟨rfl, (Below.refl _ _).alloc (Nat.le_refl _) _⟩
              · have hb := Lib.hid (show mayB ⟨8, a, b, c, x⟩ = false from by unfold mayB; rw [decide_eq_true (by dsimp only; omega)]; unfold mayK; simp [*])
                rw [hb.out]
                clear hb
                go_enter Tryd.func13, Tryd.ntmps13
                go_wp2_with (go_at_call 25; first | (refine (in_yes _ _ _ _ (by omega) (by omega)).mono ?_; rintro e w' ⟨rfl, rfl⟩) | (refine (in_no _ _ _ _ (by omega)).mono ?_; rintro e w' ⟨rfl, rfl⟩))
                go_ret
                exact ⟨rfl, (Below.refl _ _).alloc (Nat.le_refl _) _⟩
            · have hb := Lib.hid (show mayB ⟨8, a, b, c, x⟩ = false from by unfold mayB; rw [decide_eq_true (by dsimp only; omega)]; unfold mayK; simp [*])
              rw [hb.out]
              clear hb
              go_enter Tryd.func13, Tryd.ntmps13
              go_wp2_with (go_at_call 25; first | (refine (in_yes _ _ _ _ (by omega) (by omega)).mono ?_; rintro e w' ⟨rfl, rfl⟩) | (refine (in_no _ _ _ _ (by omega)).mono ?_; rintro e w' ⟨rfl, rfl⟩))
              go_ret
              exact ⟨rfl, (Below.refl _ _).alloc (Nat.le_refl _) _⟩
          · by_cases zb : b = 0
            · by_cases zc : c = 0
              · have hb := Lib.hid (show mayB ⟨12, a, b, c, x⟩ = true from by unfold mayB; rw [decide_eq_true (by dsimp only; omega)]; unfold mayK; simp [*])
                rw [hb.out]
                clear hb
                go_enter Tryd.func13, Tryd.ntmps13
                go_wp2_with (go_at_call 25; first | (refine (in_yes _ _ _ _ (by omega) (by omega)).mono ?_; rintro e w' ⟨rfl, rfl⟩) | (refine (in_no _ _ _ _ (by omega)).mono ?_; rintro e w' ⟨rfl, rfl⟩))
                go_ret
                exact ⟨rfl, (Below.refl _ _).alloc (Nat.le_refl _) _⟩
              · have hb := Lib.hid (show mayB ⟨12, a, b, c, x⟩ = false from by unfold mayB; rw [decide_eq_true (by dsimp only; omega)]; unfold mayK; simp [*])
                rw [hb.out]
                clear hb
                go_enter Tryd.func13, Tryd.ntmps13
                go_wp2_with (go_at_call 25; first | (refine (in_yes _ _ _ _ (by omega) (by omega)).mono ?_; rintro e w' ⟨rfl, rfl⟩) | (refine (in_no _ _ _ _ (by omega)).mono ?_; rintro e w' ⟨rfl, rfl⟩))
                go_ret
                exact ⟨rfl, (Below.refl _ _).alloc (Nat.le_refl _) _⟩
            · have hb := Lib.hid (show mayB ⟨12, a, b, c, x⟩ = false from by unfold mayB; rw [decide_eq_true (by dsimp only; omega)]; unfold mayK; simp [*])
              rw [hb.out]
              clear hb
              go_enter Tryd.func13, Tryd.ntmps13
              go_wp2_with (go_at_call 25; first | (refine (in_yes _ _ _ _ (by omega) (by omega)).mono ?_; rintro e w' ⟨rfl, rfl⟩) | (refine (in_no _ _ _ _ (by omega)).mono ?_; rintro e w' ⟨rfl, rfl⟩))
              go_ret
              exact ⟨rfl, (Below.refl _ _).alloc (Nat.le_refl _) _⟩
          · by_cases zc : c = 0
            · by_cases zx : x = 0
              · have hb := Lib.hid (show mayB ⟨10, a, b, c, x⟩ = true from by unfold mayB; rw [decide_eq_true (by dsimp only; omega)]; unfold mayK; simp [*])
                rw [hb.out]
                clear hb
                go_enter Tryd.func13, Tryd.ntmps13
                go_wp2_with (go_at_call 25; first | (refine (in_yes _ _ _ _ (by omega) (by omega)).mono ?_; rintro e w' ⟨rfl, rfl⟩) | (refine (in_no _ _ _ _ (by omega)).mono ?_; rintro e w' ⟨rfl, rfl⟩))
                go_ret
                exact ⟨rfl, (Below.refl _ _).alloc (Nat.le_refl _) _⟩
              · have hb := Lib.hid (show mayB ⟨10, a, b, c, x⟩ = false from by unfold mayB; rw [decide_eq_true (by dsimp only; omega)]; unfold mayK; simp [*])
                rw [hb.out]
                clear hb
                go_enter Tryd.func13, Tryd.ntmps13
                go_wp2_with (go_at_call 25; first | (refine (in_yes _ _ _ _ (by omega) (by omega)).mono ?_; rintro e w' ⟨rfl, rfl⟩) | (refine (in_no _ _ _ _ (by omega)).mono ?_; rintro e w' ⟨rfl, rfl⟩))
                go_ret
                exact ⟨by show Ending.returned (.bool (x == 0)) = _; rw [beq_eq_false_iff_ne.2 zx], (Below.refl _ _).alloc (Nat.le_refl _) _⟩
            · have hb := Lib.hid (show mayB ⟨10, a, b, c, x⟩ = false from by unfold mayB; rw [decide_eq_true (by dsimp only; omega)]; unfold mayK; simp [*])
              rw [hb.out]
              clear hb
              go_enter Tryd.func13, Tryd.ntmps13
              go_wp2_with (go_at_call 25; first | (refine (in_yes _ _ _ _ (by omega) (by omega)).mono ?_; rintro e w' ⟨rfl, rfl⟩) | (refine (in_no _ _ _ _ (by omega)).mono ?_; rintro e w' ⟨rfl, rfl⟩))
              go_ret
              exact ⟨rfl, (Below.refl _ _).alloc (Nat.le_refl _) _⟩
          · by_cases zc : c = 0
            · by_cases zx : x = 0
              · have hb := Lib.hid (show mayB ⟨11, a, b, c, x⟩ = true from by unfold mayB; rw [decide_eq_true (by dsimp only; omega)]; unfold mayK; simp [*])
                rw [hb.out]
                clear hb
                go_enter Tryd.func13, Tryd.ntmps13
                go_wp2_with (go_at_call 25; first | (refine (in_yes _ _ _ _ (by omega) (by omega)).mono ?_; rintro e w' ⟨rfl, rfl⟩) | (refine (in_no _ _ _ _ (by omega)).mono ?_; rintro e w' ⟨rfl, rfl⟩))
                go_ret
                exact ⟨rfl, (Below.refl _ _).alloc (Nat.le_refl _) _⟩
              · have hb := Lib.hid (show mayB ⟨11, a, b, c, x⟩ = false from by unfold mayB; rw [decide_eq_true (by dsimp only; omega)]; unfold mayK; simp [*])
                rw [hb.out]
                clear hb
                go_enter Tryd.func13, Tryd.ntmps13
                go_wp2_with (go_at_call 25; first | (refine (in_yes _ _ _ _ (by omega) (by omega)).mono ?_; rintro e w' ⟨rfl, rfl⟩) | (refine (in_no _ _ _ _ (by omega)).mono ?_; rintro e w' ⟨rfl, rfl⟩))
                go_ret
                exact ⟨by show Ending.returned (.bool (x == 0)) = _; rw [beq_eq_false_iff_ne.2 zx], (Below.refl _ _).alloc (Nat.le_refl _) _⟩
            · have hb := Lib.hid (show mayB ⟨11, a, b, c, x⟩ = false from by unfold mayB; rw [decide_eq_true (by dsimp only; omega)]; unfold mayK; simp [*])
              rw [hb.out]
              clear hb
              go_enter Tryd.func13, Tryd.ntmps13
              go_wp2_with (go_at_call 25; first | (refine (in_yes _ _ _ _ (by omega) (by omega)).mono ?_; rintro e w' ⟨rfl, rfl⟩) | (refine (in_no _ _ _ _ (by omega)).mono ?_; rintro e w' ⟨rfl, rfl⟩))
              go_ret
              exact ⟨rfl, (Below.refl _ _).alloc (Nat.le_refl _) _⟩
          · by_cases za : a = 0
            · by_cases zb : b = 0
              · by_cases zc : c = 0
                · have hb := Lib.hid (show mayB ⟨13, a, b, c, x⟩ = true from by unfold mayB; rw [decide_eq_true (by dsimp only; omega)]; unfold mayK; simp [*])
                  rw [hb.out]
                  clear hb
                  go_enter Tryd.func13, Tryd.ntmps13
                  go_wp2_with (go_at_call 25; first | (refine (in_yes _ _ _ _ (by omega) (by omega)).mono ?_; rintro e w' ⟨rfl, rfl⟩) | (refine (in_no _ _ _ _ (by omega)).mono ?_; rintro e w' ⟨rfl, rfl⟩))
                  go_ret
                  exact ⟨rfl, (Below.refl _ _).alloc (Nat.le_refl _) _⟩
                · have hb := Lib.hid (show mayB ⟨13, a, b, c, x⟩ = false from by unfold mayB; rw [decide_eq_true (by dsimp only; omega)]; unfold mayK; simp [*])
                  rw [hb.out]
                  clear hb
                  go_enter Tryd.func13, Tryd.ntmps13
                  go_wp2_with (go_at_call 25; first | (refine (in_yes _ _ _ _ (by omega) (by omega)).mono ?_; rintro e w' ⟨rfl, rfl⟩) | (refine (in_no _ _ _ _ (by omega)).mono ?_; rintro e w' ⟨rfl, rfl⟩))
                  go_ret
                  exact ⟨rfl, (Below.refl _ _).alloc (Nat.le_refl _) _⟩
              · have hb := Lib.hid (show mayB ⟨13, a, b, c, x⟩ = false from by unfold mayB; rw [decide_eq_true (by dsimp only; omega)]; unfold mayK; simp [*])
                rw [hb.out]
                clear hb
                go_enter Tryd.func13, Tryd.ntmps13
                go_wp2_with (go_at_call 25; first | (refine (in_yes _ _ _ _ (by omega) (by omega)).mono ?_; rintro e w' ⟨rfl, rfl⟩) | (refine (in_no _ _ _ _ (by omega)).mono ?_; rintro e w' ⟨rfl, rfl⟩))
                go_ret
                exact ⟨rfl, (Below.refl _ _).alloc (Nat.le_refl _) _⟩
            · have hb := Lib.hid (show mayB ⟨13, a, b, c, x⟩ = false from by unfold mayB; rw [decide_eq_true (by dsimp only; omega)]; unfold mayK; simp [*])
              rw [hb.out]
              clear hb
              go_enter Tryd.func13, Tryd.ntmps13
              go_wp2_with (go_at_call 25; first | (refine (in_yes _ _ _ _ (by omega) (by omega)).mono ?_; rintro e w' ⟨rfl, rfl⟩) | (refine (in_no _ _ _ _ (by omega)).mono ?_; rintro e w' ⟨rfl, rfl⟩))
              go_ret
              exact ⟨rfl, (Below.refl _ _).alloc (Nat.le_refl _) _⟩
          · by_cases za : a = 0
            · by_cases zb : b = 0
              · by_cases zc : c = 0
                · by_cases zx : x = 0
                  · have hb := Lib.hid (show mayB ⟨6, a, b, c, x⟩ = true from by unfold mayB; rw [decide_eq_true (by dsimp only; omega)]; unfold mayK; simp [*])
                    rw [hb.out]
                    clear hb
                    go_enter Tryd.func13, Tryd.ntmps13
                    go_wp2_with (go_at_call 25; first | (refine (in_yes _ _ _ _ (by omega) (by omega)).mono ?_; rintro e w' ⟨rfl, rfl⟩) | (refine (in_no _ _ _ _ (by omega)).mono ?_; rintro e w' ⟨rfl, rfl⟩))
                    go_ret
                    exact ⟨rfl, (Below.refl _ _).alloc (Nat.le_refl _) _⟩
                  · have hb := Lib.hid (show mayB ⟨6, a, b, c, x⟩ = false from by unfold mayB; rw [decide_eq_true (by dsimp only; omega)]; unfold mayK; simp [*])
                    rw [hb.out]
                    clear hb
                    go_enter Tryd.func13, Tryd.ntmps13
                    go_wp2_with (go_at_call 25; first | (refine (in_yes _ _ _ _ (by omega) (by omega)).mono ?_; rintro e w' ⟨rfl, rfl⟩) | (refine (in_no _ _ _ _ (by omega)).mono ?_; rintro e w' ⟨rfl, rfl⟩))
                    go_ret
                    exact ⟨by show Ending.returned (.bool (x == 0)) = _; rw [beq_eq_false_iff_ne.2 zx], (Below.refl _ _).alloc (Nat.le_refl _) _⟩
                · have hb := Lib.hid (show mayB ⟨6, a, b, c, x⟩ = false from by unfold mayB; rw [decide_eq_true (by dsimp only; omega)]; unfold mayK; simp [*])
                  rw [hb.out]
                  clear hb
                  go_enter Tryd.func13, Tryd.ntmps13
                  go_wp2_with (go_at_call 25; first | (refine (in_yes _ _ _ _ (by omega) (by omega)).mono ?_; rintro e w' ⟨rfl, rfl⟩) | (refine (in_no _ _ _ _ (by omega)).mono ?_; rintro e w' ⟨rfl, rfl⟩))
                  go_ret
                  exact ⟨rfl, (Below.refl _ _).alloc (Nat.le_refl _) _⟩
              · have hb := Lib.hid (show mayB ⟨6, a, b, c, x⟩ = false from by unfold mayB; rw [decide_eq_true (by dsimp only; omega)]; unfold mayK; simp [*])
                rw [hb.out]
                clear hb
                go_enter Tryd.func13, Tryd.ntmps13
                go_wp2_with (go_at_call 25; first | (refine (in_yes _ _ _ _ (by omega) (by omega)).mono ?_; rintro e w' ⟨rfl, rfl⟩) | (refine (in_no _ _ _ _ (by omega)).mono ?_; rintro e w' ⟨rfl, rfl⟩))
                go_ret
                exact ⟨rfl, (Below.refl _ _).alloc (Nat.le_refl _) _⟩
            · have hb := Lib.hid (show mayB ⟨6, a, b, c, x⟩ = false from by unfold mayB; rw [decide_eq_true (by dsimp only; omega)]; unfold mayK; simp [*])
              rw [hb.out]
              clear hb
              go_enter Tryd.func13, Tryd.ntmps13
              go_wp2_with (go_at_call 25; first | (refine (in_yes _ _ _ _ (by omega) (by omega)).mono ?_; rintro e w' ⟨rfl, rfl⟩) | (refine (in_no _ _ _ _ (by omega)).mono ?_; rintro e w' ⟨rfl, rfl⟩))
              go_ret
              exact ⟨rfl, (Below.refl _ _).alloc (Nat.le_refl _) _⟩
          · by_cases za : a = 0
            · by_cases zb : b = 0
              · by_cases zc : c = 0
                · by_cases zx : x = 0
                  · have hb := Lib.hid (show mayB ⟨14, a, b, c, x⟩ = true from by unfold mayB; rw [decide_eq_true (by dsimp only; omega)]; unfold mayK; simp [*])
                    rw [hb.out]
                    clear hb
                    go_enter Tryd.func13, Tryd.ntmps13
                    go_wp2_with (go_at_call 25; first | (refine (in_yes _ _ _ _ (by omega) (by omega)).mono ?_; rintro e w' ⟨rfl, rfl⟩) | (refine (in_no _ _ _ _ (by omega)).mono ?_; rintro e w' ⟨rfl, rfl⟩))
                    go_ret
                    exact ⟨rfl, (Below.refl _ _).alloc (Nat.le_refl _) _⟩
                  · have hb := Lib.hid (show mayB ⟨14, a, b, c, x⟩ = false from by unfold mayB; rw [decide_eq_true (by dsimp only; omega)]; unfold mayK; simp [*])
                    rw [hb.out]
                    clear hb
                    go_enter Tryd.func13, Tryd.ntmps13
                    go_wp2_with (go_at_call 25; first | (refine (in_yes _ _ _ _ (by omega) (by omega)).mono ?_; rintro e w' ⟨rfl, rfl⟩) | (refine (in_no _ _ _ _ (by omega)).mono ?_; rintro e w' ⟨rfl, rfl⟩))
                    go_ret
                    exact ⟨by show Ending.returned (.bool (x == 0)) = _; rw [beq_eq_false_iff_ne.2 zx], (Below.refl _ _).alloc (Nat.le_refl _) _⟩
                · have hb := Lib.hid (show mayB ⟨14, a, b, c, x⟩ = false from by unfold mayB; rw [decide_eq_true (by dsimp only; omega)]; unfold mayK; simp [*])
                  rw [hb.out]
                  clear hb
                  go_enter Tryd.func13, Tryd.ntmps13
                  go_wp2_with (go_at_call 25; first | (refine (in_yes _ _ _ _ (by omega) (by omega)).mono ?_; rintro e w' ⟨rfl, rfl⟩) | (refine (in_no _ _ _ _ (by omega)).mono ?_; rintro e w' ⟨rfl, rfl⟩))
                  go_ret
                  exact ⟨rfl, (Below.refl _ _).alloc (Nat.le_refl _) _⟩
              · have hb := Lib.hid (show mayB ⟨14, a, b, c, x⟩ = false from by unfold mayB; rw [decide_eq_true (by dsimp only; omega)]; unfold mayK; simp [*])
                rw [hb.out]
                clear hb
                go_enter Tryd.func13, Tryd.ntmps13
                go_wp2_with (go_at_call 25; first | (refine (in_yes _ _ _ _ (by omega) (by omega)).mono ?_; rintro e w' ⟨rfl, rfl⟩) | (refine (in_no _ _ _ _ (by omega)).mono ?_; rintro e w' ⟨rfl, rfl⟩))
                go_ret
                exact ⟨rfl, (Below.refl _ _).alloc (Nat.le_refl _) _⟩
            · have hb := Lib.hid (show mayB ⟨14, a, b, c, x⟩ = false from by unfold mayB; rw [decide_eq_true (by dsimp only; omega)]; unfold mayK; simp [*])
              rw [hb.out]
              clear hb
              go_enter Tryd.func13, Tryd.ntmps13
              go_wp2_with (go_at_call 25; first | (refine (in_yes _ _ _ _ (by omega) (by omega)).mono ?_; rintro e w' ⟨rfl, rfl⟩) | (refine (in_no _ _ _ _ (by omega)).mono ?_; rintro e w' ⟨rfl, rfl⟩))
              go_ret
              exact ⟨rfl, (Below.refl _ _).alloc (Nat.le_refl _) _⟩
          · by_cases zb : b = 0
            · by_cases zc : c = 0
              · by_cases zx : x = 0
                · have hb := Lib.hid (show mayB ⟨k, a, b, c, x⟩ = true from by unfold mayB; rw [decide_eq_true (by dsimp only; omega)]; unfold mayK; simp [*])
                  rw [hb.out]
                  clear hb
                  go_enter Tryd.func13, Tryd.ntmps13
                  go_wp2_with (go_at_call 25; first | (refine (in_yes _ _ _ _ (by omega) (by omega)).mono ?_; rintro e w' ⟨rfl, rfl⟩) | (refine (in_no _ _ _ _ (by omega)).mono ?_; rintro e w' ⟨rfl, rfl⟩))
                  go_ret
                  exact ⟨rfl, (Below.refl _ _).alloc (Nat.le_refl _) _⟩
                · have hb := Lib.hid (show mayB ⟨k, a, b, c, x⟩ = false from by unfold mayB; rw [decide_eq_true (by dsimp only; omega)]; unfold mayK; simp [*])
                  rw [hb.out]
                  clear hb
                  go_enter Tryd.func13, Tryd.ntmps13
                  go_wp2_with (go_at_call 25; first | (refine (in_yes _ _ _ _ (by omega) (by omega)).mono ?_; rintro e w' ⟨rfl, rfl⟩) | (refine (in_no _ _ _ _ (by omega)).mono ?_; rintro e w' ⟨rfl, rfl⟩))
                  go_ret
                  exact ⟨by show Ending.returned (.bool (k == 1 || k == 5 || k == 8 || k == 12 || k == 13 || x == 0)) = _; simp [n1, n5, n8, n12, n13, zx], (Below.refl _ _).alloc (Nat.le_refl _) _⟩
              · have hb := Lib.hid (show mayB ⟨k, a, b, c, x⟩ = false from by unfold mayB; rw [decide_eq_true (by dsimp only; omega)]; unfold mayK; simp [*])
                rw [hb.out]
                clear hb
                go_enter Tryd.func13, Tryd.ntmps13
                go_wp2_with (go_at_call 25; first | (refine (in_yes _ _ _ _ (by omega) (by omega)).mono ?_; rintro e w' ⟨rfl, rfl⟩) | (refine (in_no _ _ _ _ (by omega)).mono ?_; rintro e w' ⟨rfl, rfl⟩))
                go_ret
                exact ⟨rfl, (Below.refl _ _).alloc (Nat.le_refl _) _⟩
            · have hb := Lib.hid (show mayB ⟨k, a, b, c, x⟩ = false from by unfold mayB; rw [decide_eq_true (by dsimp only; omega)]; unfold mayK; simp [*])
              rw [hb.out]
              clear hb
              go_enter Tryd.func13, Tryd.ntmps13
              go_wp2_with (go_at_call 25; first | (refine (in_yes _ _ _ _ (by omega) (by omega)).mono ?_; rintro e w' ⟨rfl, rfl⟩) | (refine (in_no _ _ _ _ (by omega)).mono ?_; rintro e w' ⟨rfl, rfl⟩))
              go_ret
              exact ⟨rfl, (Below.refl _ _).alloc (Nat.le_refl _) _⟩
        · have hb := Lib.hid (show mayB ⟨k, a, b, c, x⟩ = false from by unfold mayB; rw [decide_eq_false (by dsimp only; omega)]; rfl)
          rw [hb.out]
          clear hb
          go_enter Tryd.func13, Tryd.ntmps13
          go_wp2_with (go_at_call 25; first | (refine (in_yes _ _ _ _ (by omega) (by omega)).mono ?_; rintro e w' ⟨rfl, rfl⟩) | (refine (in_no _ _ _ _ (by omega)).mono ?_; rintro e w' ⟨rfl, rfl⟩))
          go_ret
          exact ⟨rfl, (Below.refl _ _).alloc (Nat.le_refl _) _⟩
      · have hb := Lib.hid (show mayB ⟨k, a, b, c, x⟩ = false from by unfold mayB; rw [decide_eq_false (by dsimp only; omega)]; rfl)
        rw [hb.out]
        clear hb
        go_enter Tryd.func13, Tryd.ntmps13
        go_wp2_with (go_at_call 25; first | (refine (in_yes _ _ _ _ (by omega) (by omega)).mono ?_; rintro e w' ⟨rfl, rfl⟩) | (refine (in_no _ _ _ _ (by omega)).mono ?_; rintro e w' ⟨rfl, rfl⟩))
        go_ret
        exact ⟨rfl, (Below.refl _ _).alloc (Nat.le_refl _) _⟩
    · have hb := Lib.hid (show mayB ⟨k, a, b, c, x⟩ = false from by unfold mayB; rw [decide_eq_false (by dsimp only; omega)]; rfl)
      rw [hb.out]
      clear hb
      go_enter Tryd.func13, Tryd.ntmps13
      go_wp2_with (go_at_call 25; first | (refine (in_yes _ _ _ _ (by omega) (by omega)).mono ?_; rintro e w' ⟨rfl, rfl⟩) | (refine (in_no _ _ _ _ (by omega)).mono ?_; rintro e w' ⟨rfl, rfl⟩))
      go_ret
      exact ⟨rfl, (Below.refl _ _).alloc (Nat.le_refl _) _⟩
  · have hb := Lib.hid (show mayB ⟨k, a, b, c, x⟩ = false from by unfold mayB; rw [decide_eq_false (by dsimp only; omega)]; rfl)
    rw [hb.out]
    clear hb
    go_enter Tryd.func13, Tryd.ntmps13
    go_wp2_with (go_at_call 25; first | (refine (in_yes _ _ _ _ (by omega) (by omega)).mono ?_; rintro e w' ⟨rfl, rfl⟩) | (refine (in_no _ _ _ _ (by omega)).mono ?_; rintro e w' ⟨rfl, rfl⟩))
    go_ret
    exact ⟨rfl, (Below.refl _ _).alloc (Nat.le_refl _) _⟩
end Go.Proofs.YteapmebmgaggcaaDoor
