import Derived.Test.YteapmebmgaggcaaDoorOc
import Derived.Deep.RegionWith
namespace Go.Proofs.YteapmebmgaggcaaDoor
open Go.RowKit Go.Proofs.YteapmebmgaggcaaDoorW.PrintWords
set_option linter.unusedVariables false
set_option linter.unusedSimpArgs false

/-- A setup's and an operation's numbers. -/
structure SU where
  ve : Int
  jo : Int
  au : Int
  pe : Int
  pa : Int
structure OP where
  k : Int
  a : Int
  b : Int
  c : Int
  w : Int
def SU.val (s : SU) : Value := .agg #[.int .i64 s.ve, .int .i64 s.jo, .int .i64 s.au, .int .i64 s.pe, .int .i64 s.pa]
def OP.val (o : OP) : Value := .agg #[.int .i64 o.k, .int .i64 o.a, .int .i64 o.b, .int .i64 o.c, .int .u64 o.w]
def okS (s : SU) : Bool := decide (1 ≤ s.ve ∧ s.ve ≤ 24 ∧ 1 ≤ s.jo ∧ s.jo ≤ 32 ∧ 0 ≤ s.au ∧ s.au ≤ 255 ∧ 0 ≤ s.pe ∧ s.pe ≤ 255 ∧ 0 ≤ s.pa ∧ s.pa ≤ 255)

theorem within_yes (n m : Int) (w : World) (h : 0 ≤ n) (h1 : n ≤ m) : Calls Tryd.prog 26 #[.int .i64 n, .int .i64 m] w fun e w' => e = .returned (.bool true) ∧ w = w' := by
  go_enter Tryd.func26, Tryd.ntmps26
  go_wp2_with fail
  go_ret
  exact ⟨rfl, rfl⟩
theorem within_no (n m : Int) (w : World) (h : ¬ (0 ≤ n ∧ n ≤ m)) : Calls Tryd.prog 26 #[.int .i64 n, .int .i64 m] w fun e w' => e = .returned (.bool false) ∧ w = w' := by
  by_cases h0 : 0 ≤ n
  · have h1 : ¬ n ≤ m := by omega
    clear h
    go_enter Tryd.func26, Tryd.ntmps26
    go_wp2_with fail
    go_ret
    exact ⟨rfl, rfl⟩
  · clear h
    go_enter Tryd.func26, Tryd.ntmps26
    go_wp2_with fail
    go_ret
    exact ⟨rfl, rfl⟩
theorem in_yes (n l m : Int) (w : World) (h : l ≤ n) (h1 : n ≤ m) : Calls Tryd.prog 25 #[.int .i64 n, .int .i64 l, .int .i64 m] w fun e w' => e = .returned (.bool true) ∧ w = w' := by
  go_enter Tryd.func25, Tryd.ntmps25
  go_wp2_with fail
  go_ret
  exact ⟨rfl, rfl⟩
theorem in_no (n l m : Int) (w : World) (h : ¬ (l ≤ n ∧ n ≤ m)) : Calls Tryd.prog 25 #[.int .i64 n, .int .i64 l, .int .i64 m] w fun e w' => e = .returned (.bool false) ∧ w = w' := by
  by_cases h0 : l ≤ n
  · have h1 : ¬ n ≤ m := by omega
    clear h
    go_enter Tryd.func25, Tryd.ntmps25
    go_wp2_with fail
    go_ret
    exact ⟨rfl, rfl⟩
  · clear h
    go_enter Tryd.func25, Tryd.ntmps25
    go_wp2_with fail
    go_ret
    exact ⟨rfl, rfl⟩

/-- 'wire.Setup'. -/
theorem wsetup_any (s : SU) (w : World) : Calls Tryd.prog 11 #[s.val] w fun e w' => e = .returned (.bool (okS s)) ∧ Below w.heap.size w w' := by
  obtain ⟨ve, jo, au, pe, pa⟩ := s
  unfold SU.val
  dsimp only
  by_cases h1 : 1 ≤ ve
  · by_cases h2 : ve ≤ 24
    · by_cases h3 : 1 ≤ jo
      · by_cases h4 : jo ≤ 32
        · by_cases h5 : 0 ≤ au ∧ au ≤ 255
          · by_cases h6 : 0 ≤ pe ∧ pe ≤ 255
            · by_cases h7 : 0 ≤ pa ∧ pa ≤ 255
              · have hb := Lib.hid (show okS ⟨ve, jo, au, pe, pa⟩ = true from by unfold okS; exact decide_eq_true (by dsimp only; omega))
                rw [hb.out]
                clear hb
                go_enter Tryd.func11, Tryd.ntmps11
                go_wp2_with (go_at_call 26; first | (refine (within_yes _ _ _ (by omega) (by omega)).mono ?_; rintro e w' ⟨rfl, rfl⟩) | (refine (within_no _ _ _ (by omega)).mono ?_; rintro e w' ⟨rfl, rfl⟩))
                go_ret
                exact ⟨rfl, (Below.refl _ _).alloc (Nat.le_refl _) _⟩
              · have hb := Lib.hid (show okS ⟨ve, jo, au, pe, pa⟩ = false from by unfold okS; exact decide_eq_false (by dsimp only; omega))
                rw [hb.out]
                clear hb
                go_enter Tryd.func11, Tryd.ntmps11
                go_wp2_with (go_at_call 26; first | (refine (within_yes _ _ _ (by omega) (by omega)).mono ?_; rintro e w' ⟨rfl, rfl⟩) | (refine (within_no _ _ _ (by omega)).mono ?_; rintro e w' ⟨rfl, rfl⟩))
                go_ret
                exact ⟨rfl, (Below.refl _ _).alloc (Nat.le_refl _) _⟩
            · have hb := Lib.hid (show okS ⟨ve, jo, au, pe, pa⟩ = false from by unfold okS; exact decide_eq_false (by dsimp only; omega))
              rw [hb.out]
              clear hb
              go_enter Tryd.func11, Tryd.ntmps11
              go_wp2_with (go_at_call 26; first | (refine (within_yes _ _ _ (by omega) (by omega)).mono ?_; rintro e w' ⟨rfl, rfl⟩) | (refine (within_no _ _ _ (by omega)).mono ?_; rintro e w' ⟨rfl, rfl⟩))
              go_ret
              exact ⟨rfl, (Below.refl _ _).alloc (Nat.le_refl _) _⟩
          · have hb := Lib.hid (show okS ⟨ve, jo, au, pe, pa⟩ = false from by unfold okS; exact decide_eq_false (by dsimp only; omega))
            rw [hb.out]
            clear hb
            go_enter Tryd.func11, Tryd.ntmps11
            go_wp2_with (go_at_call 26; first | (refine (within_yes _ _ _ (by omega) (by omega)).mono ?_; rintro e w' ⟨rfl, rfl⟩) | (refine (within_no _ _ _ (by omega)).mono ?_; rintro e w' ⟨rfl, rfl⟩))
            go_ret
            exact ⟨rfl, (Below.refl _ _).alloc (Nat.le_refl _) _⟩
        · have hb := Lib.hid (show okS ⟨ve, jo, au, pe, pa⟩ = false from by unfold okS; exact decide_eq_false (by dsimp only; omega))
          rw [hb.out]
          clear hb
          go_enter Tryd.func11, Tryd.ntmps11
          go_wp2_with (go_at_call 26; first | (refine (within_yes _ _ _ (by omega) (by omega)).mono ?_; rintro e w' ⟨rfl, rfl⟩) | (refine (within_no _ _ _ (by omega)).mono ?_; rintro e w' ⟨rfl, rfl⟩))
          go_ret
          exact ⟨rfl, (Below.refl _ _).alloc (Nat.le_refl _) _⟩
      · have hb := Lib.hid (show okS ⟨ve, jo, au, pe, pa⟩ = false from by unfold okS; exact decide_eq_false (by dsimp only; omega))
        rw [hb.out]
        clear hb
        go_enter Tryd.func11, Tryd.ntmps11
        go_wp2_with (go_at_call 26; first | (refine (within_yes _ _ _ (by omega) (by omega)).mono ?_; rintro e w' ⟨rfl, rfl⟩) | (refine (within_no _ _ _ (by omega)).mono ?_; rintro e w' ⟨rfl, rfl⟩))
        go_ret
        exact ⟨rfl, (Below.refl _ _).alloc (Nat.le_refl _) _⟩
    · have hb := Lib.hid (show okS ⟨ve, jo, au, pe, pa⟩ = false from by unfold okS; exact decide_eq_false (by dsimp only; omega))
      rw [hb.out]
      clear hb
      go_enter Tryd.func11, Tryd.ntmps11
      go_wp2_with (go_at_call 26; first | (refine (within_yes _ _ _ (by omega) (by omega)).mono ?_; rintro e w' ⟨rfl, rfl⟩) | (refine (within_no _ _ _ (by omega)).mono ?_; rintro e w' ⟨rfl, rfl⟩))
      go_ret
      exact ⟨rfl, (Below.refl _ _).alloc (Nat.le_refl _) _⟩
  · have hb := Lib.hid (show okS ⟨ve, jo, au, pe, pa⟩ = false from by unfold okS; exact decide_eq_false (by dsimp only; omega))
    rw [hb.out]
    clear hb
    go_enter Tryd.func11, Tryd.ntmps11
    go_wp2_with (go_at_call 26; first | (refine (within_yes _ _ _ (by omega) (by omega)).mono ?_; rintro e w' ⟨rfl, rfl⟩) | (refine (within_no _ _ _ (by omega)).mono ?_; rintro e w' ⟨rfl, rfl⟩))
    go_ret
    exact ⟨rfl, (Below.refl _ _).alloc (Nat.le_refl _) _⟩
/-- 'ringroadref26.Setup'. -/
theorem rsetup_any (s : SU) (w : World) : Calls Tryd.prog 10 #[s.val] w fun e w' => e = .returned (.bool (okS s)) ∧ Below w.heap.size w w' := by
  obtain ⟨ve, jo, au, pe, pa⟩ := s
  unfold SU.val
  dsimp only
  by_cases h1 : 1 ≤ ve
  · by_cases h2 : ve ≤ 24
    · by_cases h3 : 1 ≤ jo
      · by_cases h4 : jo ≤ 32
        · by_cases h5 : 0 ≤ au ∧ au ≤ 255
          · by_cases h6 : 0 ≤ pe ∧ pe ≤ 255
            · by_cases h7 : 0 ≤ pa ∧ pa ≤ 255
              · have hb := Lib.hid (show okS ⟨ve, jo, au, pe, pa⟩ = true from by unfold okS; exact decide_eq_true (by dsimp only; omega))
                rw [hb.out]
                clear hb
                go_enter Tryd.func10, Tryd.ntmps10
                go_wp2_with (go_at_call 25; first | (refine (in_yes _ _ _ _ (by omega) (by omega)).mono ?_; rintro e w' ⟨rfl, rfl⟩) | (refine (in_no _ _ _ _ (by omega)).mono ?_; rintro e w' ⟨rfl, rfl⟩))
                go_ret
                exact ⟨rfl, (Below.refl _ _).alloc (Nat.le_refl _) _⟩
              · have hb := Lib.hid (show okS ⟨ve, jo, au, pe, pa⟩ = false from by unfold okS; exact decide_eq_false (by dsimp only; omega))
                rw [hb.out]
                clear hb
                go_enter Tryd.func10, Tryd.ntmps10
                go_wp2_with (go_at_call 25; first | (refine (in_yes _ _ _ _ (by omega) (by omega)).mono ?_; rintro e w' ⟨rfl, rfl⟩) | (refine (in_no _ _ _ _ (by omega)).mono ?_; rintro e w' ⟨rfl, rfl⟩))
                go_ret
                exact ⟨rfl, (Below.refl _ _).alloc (Nat.le_refl _) _⟩
            · have hb := Lib.hid (show okS ⟨ve, jo, au, pe, pa⟩ = false from by unfold okS; exact decide_eq_false (by dsimp only; omega))
              rw [hb.out]
              clear hb
              go_enter Tryd.func10, Tryd.ntmps10
              go_wp2_with (go_at_call 25; first | (refine (in_yes _ _ _ _ (by omega) (by omega)).mono ?_; rintro e w' ⟨rfl, rfl⟩) | (refine (in_no _ _ _ _ (by omega)).mono ?_; rintro e w' ⟨rfl, rfl⟩))
              go_ret
              exact ⟨rfl, (Below.refl _ _).alloc (Nat.le_refl _) _⟩
          · have hb := Lib.hid (show okS ⟨ve, jo, au, pe, pa⟩ = false from by unfold okS; exact decide_eq_false (by dsimp only; omega))
            rw [hb.out]
            clear hb
            go_enter Tryd.func10, Tryd.ntmps10
            go_wp2_with (go_at_call 25; first | (refine (in_yes _ _ _ _ (by omega) (by omega)).mono ?_; rintro e w' ⟨rfl, rfl⟩) | (refine (in_no _ _ _ _ (by omega)).mono ?_; rintro e w' ⟨rfl, rfl⟩))
            go_ret
            exact ⟨rfl, (Below.refl _ _).alloc (Nat.le_refl _) _⟩
        · have hb := Lib.hid (show okS ⟨ve, jo, au, pe, pa⟩ = false from by unfold okS; exact decide_eq_false (by dsimp only; omega))
          rw [hb.out]
          clear hb
          go_enter Tryd.func10, Tryd.ntmps10
          go_wp2_with (go_at_call 25; first | (refine (in_yes _ _ _ _ (by omega) (by omega)).mono ?_; rintro e w' ⟨rfl, rfl⟩) | (refine (in_no _ _ _ _ (by omega)).mono ?_; rintro e w' ⟨rfl, rfl⟩))
          go_ret
          exact ⟨rfl, (Below.refl _ _).alloc (Nat.le_refl _) _⟩
      · have hb := Lib.hid (show okS ⟨ve, jo, au, pe, pa⟩ = false from by unfold okS; exact decide_eq_false (by dsimp only; omega))
        rw [hb.out]
        clear hb
        go_enter Tryd.func10, Tryd.ntmps10
        go_wp2_with (go_at_call 25; first | (refine (in_yes _ _ _ _ (by omega) (by omega)).mono ?_; rintro e w' ⟨rfl, rfl⟩) | (refine (in_no _ _ _ _ (by omega)).mono ?_; rintro e w' ⟨rfl, rfl⟩))
        go_ret
        exact ⟨rfl, (Below.refl _ _).alloc (Nat.le_refl _) _⟩
    · have hb := Lib.hid (show okS ⟨ve, jo, au, pe, pa⟩ = false from by unfold okS; exact decide_eq_false (by dsimp only; omega))
      rw [hb.out]
      clear hb
      go_enter Tryd.func10, Tryd.ntmps10
      go_wp2_with (go_at_call 25; first | (refine (in_yes _ _ _ _ (by omega) (by omega)).mono ?_; rintro e w' ⟨rfl, rfl⟩) | (refine (in_no _ _ _ _ (by omega)).mono ?_; rintro e w' ⟨rfl, rfl⟩))
      go_ret
      exact ⟨rfl, (Below.refl _ _).alloc (Nat.le_refl _) _⟩
  · have hb := Lib.hid (show okS ⟨ve, jo, au, pe, pa⟩ = false from by unfold okS; exact decide_eq_false (by dsimp only; omega))
    rw [hb.out]
    clear hb
    go_enter Tryd.func10, Tryd.ntmps10
    go_wp2_with (go_at_call 25; first | (refine (in_yes _ _ _ _ (by omega) (by omega)).mono ?_; rintro e w' ⟨rfl, rfl⟩) | (refine (in_no _ _ _ _ (by omega)).mono ?_; rintro e w' ⟨rfl, rfl⟩))
    go_ret
    exact ⟨rfl, (Below.refl _ _).alloc (Nat.le_refl _) _⟩
end Go.Proofs.YteapmebmgaggcaaDoor
