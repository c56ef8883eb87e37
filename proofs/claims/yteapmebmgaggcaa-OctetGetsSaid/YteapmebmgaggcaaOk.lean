import Derived.Test.YteapmebmgaggcaaOj
namespace Go.Proofs.Yteapmebmgaggcaa
open Go.RowKit Go.Proofs.YteapmebmgaggcaaW.PrintWords
set_option linter.unusedVariables false
set_option linter.unusedSimpArgs false

theorem number_quiet (A : Option Addr) (l c : Nat) (xs : List Int) (w : World) (hb : ReadsInt w .u8 A l xs) (hx : Byt xs) (hl : l ≤ 8) :
    Calls Try.prog 12 #[.slice A l c] w fun e w' => e = .returned (.int .u64 (numb xs)) ∧ w' = w :=
  (number_any A l c xs w hb hx hl).mono fun _ _ ⟨h1, h2⟩ => ⟨h1, h2.symm⟩
theorem reads_drewN {w : World} {k : IntKind} {A : Option Addr} {n : Nat} {xs : List Int} (h : ReadsInt w k A n xs) (m : Nat) : ReadsInt (w.drewN m) k A n xs := h

/-- 'OctetGets' answers true. -/
theorem octetGets_law (A : Option Addr) (l c : Nat) (xs : List Int) (a1 : Int) (w : World) (hb : ReadsInt w .u8 A l xs) (hx : Byt xs) (hlc : l ≤ c) :
    Calls Try.prog 4 #[.slice A l c, .int .i64 a1] w fun e w' => e = .returned (.bool true) ∧ Below w.heap.size w w' := by
  have hxl : Hid (xs.length = l) := Lib.hid hb.1
  have hl9 := hb.2.1
  go_enter Try.func4, Try.ntmps4
  go_wp2_with fail
  refine (awake_any _).mono ?_
  rintro e w1 ⟨rfl, hb1⟩
  by_cases hbig : 500 < l
  · go_wp2_with fail
    go_ret
    exact ⟨rfl, hb1⟩
  · by_cases h0 : a1 < 0
    · go_wp2_with fail
      refine (get_arg A l c a1 _ (.inl h0)).mono ?_
      rintro e w2 ⟨rfl, rfl⟩
      go_wp2_with fail
      go_ret
      exact ⟨rfl, hb1⟩
    · by_cases h8 : 8 < a1
      · go_wp2_with fail
        refine (get_arg A l c a1 _ (.inr h8)).mono ?_
        rintro e w2 ⟨rfl, rfl⟩
        have h0d : decide (a1 < 0) = false := by simpa using h0
        go_wp2_with fail
        go_ret
        exact ⟨rfl, hb1⟩
      · have h0d : decide (a1 < 0) = false := by simpa using h0
        have h8d : decide (8 < a1) = false := by simpa using h8
        by_cases hs : (l : Int) < a1
        · go_wp2_with fail
          refine (get_short A l c a1 _ (by omega) (by omega) hs).mono ?_
          rintro e w2 ⟨rfl, rfl⟩
          go_wp2_with fail
          go_ret
          exact ⟨rfl, hb1⟩
        · obtain ⟨n, rfl⟩ := Int.eq_ofNat_of_zero_le (by omega : 0 ≤ a1)
          have hX1 := hb.below hb1
          go_wp2_with fail
          refine (get_ok A l c xs n _ hX1 hx hlc (by omega) (by omega) (by omega)).mono ?_
          rintro e w2 ⟨A2, rfl, hR2, hD2⟩
          rw [Int.toNat_natCast] at hR2 ⊢
          obtain ⟨i0, hi, hzz⟩ := Option.map_eq_some_iff.1 infoU8
          simp only [Prod.mk.injEq] at hzz
          obtain ⟨A1, hcut, hA1⟩ := print_cut (P := Try.prog) 22 5 .i64 Try.underlying22 hi hzz.2.1 A l c n (by omega)
          have hX2 := hX1.below hD2.below
          have hQ1 := fun m => reads_string (c := c - n) (reads_drewN hR2 m)
          have hQ2 := fun m => reads_string (c := c - n) (reads_drewN (hA1 w2 .u8 xs hlc hX2) m)
          have hT := fun (m : Nat) => number_quiet A n c (xs.take n) (w2.drewN m) (reads_drewN (hX2.take_ n (by omega)) m) (hx.take n) (by omega)
          have hT := Aside0.mk hT
          have hB2 := Aside0.mk (below_then hb1 hb1.size hD2.below)
          clear hzz hi hA1 hX2 hX1 hR2 hD2 hb1 h0 h8
          go_wp2_with fail
          go_quiet ((go_at_call 12; exact Calls.quiet_of_same (hT.out _)))
          go_wp2_with fail
          go_ret
          exact ⟨rfl, pw_below_drewN hB2.out _⟩
end Go.Proofs.Yteapmebmgaggcaa
