import Derived.Test.YteapmebmgaggcaaOh
namespace Go.Proofs.Yteapmebmgaggcaa
open Go.RowKit Go.Proofs.YteapmebmgaggcaaW.PrintWords
set_option linter.unusedVariables false
set_option linter.unusedSimpArgs false

theorem aw_get (w : World) :
    Calls Try.prog 11 #[.slice (some ⟨w.heap.size, 0, none⟩) 3 3, .int .i64 2] (w.alloc (.cells #[.int .u8 1, .int .u8 2, .int .u8 3] 5)) fun e w' => ∃ A' : Option Addr, e = .returned (.tuple #[.int .u64 258, .slice A' 1 1, .int .i64 0]) ∧ Below w.heap.size w w' :=
  (get_ok _ 3 3 [1, 2, 3] 2 _ (reads_new w .u8 5 [1, 2, 3] (by simp)) (by unfold Byt; decide) (by omega) (by omega) (by omega) (by omega)).mono fun e w' ⟨A', he, _, hd⟩ => ⟨A', he, ((Below.refl _ _).alloc (Nat.le_refl _) _).trans (hd.below.mono (by simp))⟩
theorem aw_unhex (w : World) :
    Calls Try.prog 13 #[.string ⟨#[48, 65]⟩] w fun e w' => e = .returned (.tuple #[.slice none 0 0, .int .i64 8]) ∧ Below w.heap.size w w' :=
  (unhex_any ⟨#[48, 65]⟩ w (by decide)).mono fun e w' ⟨hu, hb⟩ => by
    rcases hu with ⟨h, _⟩ | ⟨_, h⟩
    · exact absurd (h.2 1 (by decide)) (by decide)
    · exact ⟨h, hb⟩
theorem aw_put (w : World) :
    Calls Try.prog 9 #[.slice none 0 0, .int .i64 2, .int .u64 258] w fun e w' => ∃ u, e = .returned u ∧ (convert 22 9 u).run Try.prog w' = .ok (.string ⟨#[1, 2]⟩) w' ∧ Below w.heap.size w w' :=
  (put_any none 0 0 [] 2 258 w ⟨rfl, by omega, fun h => absurd h (by omega)⟩ (by omega) (by omega) (by omega)).mono fun e w' ⟨u, he, ho, hb⟩ => ⟨u, he, own_string (P := Try.prog) (src := 22) (dst := 9) Try.underlying22 Try.underlying5 Try.underlying9 ho, hb⟩
theorem aw_hex (w : World) :
    Calls Try.prog 15 #[.slice (some ⟨w.heap.size, 0, none⟩) 1 1] (w.alloc (.cells #[.int .u8 171] 5)) fun e w' => e = .returned (.string ⟨#[97, 98]⟩) ∧ Below w.heap.size w w' :=
  (hex_any _ 1 1 [171] _ (reads_new w .u8 5 [171] (by simp)) (by unfold Byt; decide) (by omega)).mono fun e w' ⟨he, hb⟩ => ⟨he, ((Below.refl _ _).alloc (Nat.le_refl _) _).trans (hb.mono (by simp))⟩
/-- 'awake': true. -/
theorem awake_any (w : World) : Calls Try.prog 8 #[] w fun e w' => e = .returned (.bool true) ∧ Below w.heap.size w w' := by
  go_enter Try.func8, Try.ntmps8
  go_wp2_with fail
  refine (aw_get _).mono ?_
  rintro e w1 ⟨A1, rfl, hb1⟩
  go_wp2_with fail
  refine (get_short _ 1 1 2 _ (by omega) (by omega) (by omega)).mono ?_
  rintro e w2 ⟨rfl, rfl⟩
  go_wp2_with fail
  refine (aw_unhex _).mono ?_
  rintro e w3 ⟨rfl, hb3⟩
  go_wp2_with fail
  refine (aw_put _).mono ?_
  rintro e w4 ⟨u, rfl, hc, hb4⟩
  go_wp2_with fail
  refine (aw_hex _).mono ?_
  rintro e w5 ⟨rfl, hb5⟩
  go_wp2_with fail
  go_ret
  have k1 := hb1.alloc hb1.size (.cells #[.int .u8 1] 5)
  have k2 := below_then k1 k1.size hb3
  have k3 := below_then k2 k2.size hb4
  exact ⟨rfl, below_then k3 k3.size hb5⟩
end Go.Proofs.Yteapmebmgaggcaa
