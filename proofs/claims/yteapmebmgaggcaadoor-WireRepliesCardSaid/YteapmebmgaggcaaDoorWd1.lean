import Derived.Test.YteapmebmgaggcaaDoorWc
namespace Go.Proofs.YteapmebmgaggcaaDoor
open Go.RowKit Go.Proofs.YteapmebmgaggcaaDoorW.PrintWords Go.Sort
set_option linter.unusedVariables false
set_option linter.unusedSimpArgs false

set_option maxHeartbeats 20000000 in
/-- 'wire.May'. -/
theorem may_true (k a b c x : Int) (w : World) (hn : NeedsOk w) (h1 : 1 ≤ k) (h2 : k ≤ 14) (h3 : 0 ≤ a ∧ a ≤ 255) (h4 : 0 ≤ b ∧ b ≤ 255) (h5 : 0 ≤ c ∧ c ≤ 255) : Calls Tryd.prog 12 #[.agg #[.int .i64 k, .int .i64 a, .int .i64 b, .int .i64 c, .int .u64 x]] w fun e w' => e = .returned (.bool (mayK k (a != 0) (b != 0) (c != 0) (x != 0))) ∧ Below w.heap.size w w' := by
  have hus := fun W => used_any ⟨k, a, b, c, x⟩ W
  have hmb := may_bits ⟨k, a, b, c, x⟩
  unfold OP.val at hus
  dsimp only at hus hmb
  obtain ⟨n, rfl⟩ := Int.eq_ofNat_of_zero_le (show 0 ≤ k by omega)
  have hbit := hmb n rfl (by omega) (by omega)
  obtain ⟨nk, hnk⟩ : ∃ nk, nk = needT.getD n 0 := ⟨_, rfl⟩
  have q5 : (w.alloc (.cells #[.int .i64 (n : Int), .int .i64 a, .int .i64 b, .int .i64 c, .int .u64 x] 30)).cell? ⟨0, n, none⟩ = some (.int .i64 nk) := by rw [World.cell?_alloc_lt _ _ _ hn.1, hn.2 n (by omega), hnk]
  have hn15 := Lib.hid (show (n : Int) < 15 by omega)
  rw [← hnk] at hbit
  obtain ⟨u, hu⟩ : ∃ u, u = usedV ⟨(n : Int), a, b, c, x⟩ := ⟨_, rfl⟩
  rw [← hu] at hbit hus
  clear hnk hu
  replace hbit := Lib.hid hbit
  have c1 := Aside0.mk (within_yes a 255 · (by omega) (by omega))
  have c2 := Aside0.mk (within_yes b 255 · (by omega) (by omega))
  have c3 := Aside0.mk (within_yes c 255 · (by omega) (by omega))
  have c4 := Aside0.mk hus
  clear hus hmb hn
  go_enter Tryd.func12, Tryd.ntmps12
  go_wp2_with fail
  refine wp_region_any (by kernel_rfl) ?_
  (try (change wpAny _ _ _ _ _ _ _ (World.drew _)))
  refine wpAny_take (i := 0) (v := ?_) rfl (by kernel_rfl) (by kernel_rfl) (by kernel_rfl) (fun _ _ _ h => h) (Or.inl ⟨by kernel_rfl, ?_⟩) ?_
  rotate_left
  · intro w; go_simp; try with_reducible rfl
  refine wpAny_ready (rs := [1]) (by kernel_rfl) (by simp) ?_
  refine AllReady.cons rfl (fun K hK => ?_) ?_
  · go_simp
    refine hK _ _ ?_
    clear hK K
    refine wpAny_ready (rs := [2]) (by kernel_rfl) (by simp) ?_
    refine AllReady.cons rfl (fun K hK => ?_) ?_
    · go_simp
      go_wp2_with (go_at_call 26; refine (c1.out _).mono ?_; rintro e W ⟨rfl, rfl⟩)
      refine wpAny_take (i := 3) (v := ?_) rfl (by kernel_rfl) (by kernel_rfl) (by kernel_rfl) (fun _ _ _ h => h) (Or.inl ⟨by kernel_rfl, ?_⟩) ?_
      rotate_left
      · intro w; go_simp; try with_reducible rfl
      refine wpAny_take (i := 4) (v := ?_) rfl (by kernel_rfl) (by kernel_rfl) (by kernel_rfl) (fun _ _ _ h => h) (Or.inl ⟨by kernel_rfl, ?_⟩) ?_
      rotate_left
      · intro w; go_simp; try with_reducible rfl
      refine wpAny_ready (rs := [5]) (by kernel_rfl) (by simp) ?_
      refine AllReady.cons rfl (fun K hK => ?_) ?_
      · go_simp
        refine hK _ _ ?_
        clear hK K
        refine wpAny_ready (rs := [6]) (by kernel_rfl) (by simp) ?_
        refine AllReady.cons rfl (fun K hK => ?_) ?_
        · go_simp
          go_wp2_with (go_at_call 26; refine (c2.out _).mono ?_; rintro e W ⟨rfl, rfl⟩)
          refine wpAny_take (i := 7) (v := ?_) rfl (by kernel_rfl) (by kernel_rfl) (by kernel_rfl) (fun _ _ _ h => h) (Or.inl ⟨by kernel_rfl, ?_⟩) ?_
          rotate_left
          · intro w; go_simp; try with_reducible rfl
          refine wpAny_take (i := 8) (v := ?_) rfl (by kernel_rfl) (by kernel_rfl) (by kernel_rfl) (fun _ _ _ h => h) (Or.inl ⟨by kernel_rfl, ?_⟩) ?_
          rotate_left
          · intro w; go_simp; try with_reducible rfl
          refine wpAny_take (i := 9) (v := ?_) rfl (by kernel_rfl) (by kernel_rfl) (by kernel_rfl) (fun _ _ _ h => h) (Or.inl ⟨by kernel_rfl, ?_⟩) ?_
          rotate_left
          · intro w; go_simp; try with_reducible rfl
          refine wpAny_ready (rs := [10]) (by kernel_rfl) (by simp) ?_
          refine AllReady.cons rfl (fun K hK => ?_) ?_
          · go_simp
            refine hK _ _ ?_
            clear hK K
            refine wpAny_ready (rs := [11]) (by kernel_rfl) (by simp) ?_
            refine AllReady.cons rfl (fun K hK => ?_) ?_
            · go_simp
              go_wp2_with (go_at_call 26; refine (c3.out _).mono ?_; rintro e W ⟨rfl, rfl⟩)
              refine wpAny_take (i := 12) (v := ?_) rfl (by kernel_rfl) (by kernel_rfl) (by kernel_rfl) (fun _ _ _ h => h) (Or.inl ⟨by kernel_rfl, ?_⟩) ?_
              rotate_left
              · intro w; go_simp; try with_reducible rfl
              refine wpAny_take (i := 13) (v := ?_) rfl (by kernel_rfl) (by kernel_rfl) (by kernel_rfl) (fun _ _ _ h => h) (Or.inl ⟨by kernel_rfl, ?_⟩) ?_
              rotate_left
              · intro w; go_simp; try with_reducible rfl
              refine wpAny_take (i := 16) (v := ?_) rfl (by kernel_rfl) (by kernel_rfl) (by kernel_rfl) (fun _ _ _ h => h) (Or.inl ⟨by kernel_rfl, ?_⟩) ?_
              rotate_left
              · intro w; go_simp; try with_reducible rfl
              refine wpAny_ready (rs := [14, 17]) (by kernel_rfl) (by simp) ?_
              refine AllReady.cons rfl (fun K hK => ?_) ?_
              · go_simp
                refine hK _ _ ?_
                clear hK K
                refine wpAny_ready (rs := [15, 17]) (by kernel_rfl) (by simp) ?_
                refine AllReady.cons rfl (fun K hK => ?_) ?_
                · go_simp
                  go_wp2_with (go_at_call 27; refine (c4.out _).mono ?_; rintro e w7 ⟨rfl, hB7⟩; have p0 : w7.cell? ⟨w.heap.size, 0, none⟩ = some (.int .i64 (n : Int)) := (hB7.cell (by simp)).trans (by simp); have p5 : w7.cell? ⟨0, n, none⟩ = some (.int .i64 nk) := (hB7.cell (by simp)).trans (by simpa using q5); replace hB7 := Aside0.mk hB7)
                  refine wpAny_ready (rs := [17]) (by kernel_rfl) (by simp) ?_
                  refine AllReady.cons rfl (fun K hK => ?_) ?_
                  · go_simp
                    refine hK _ _ ?_
                    clear hK K
                    refine wpAny_ready (rs := [18]) (by kernel_rfl) (by simp) ?_
                    refine AllReady.cons rfl (fun K hK => ?_) ?_
                    · go_simp
                      rw [if_pos hn15.out]
                      refine hK _ _ ?_
                      clear hK K
                      refine wpAny_ready (rs := [19]) (by kernel_rfl) (by simp) ?_
                      refine AllReady.cons rfl (fun K hK => ?_) ?_
                      · go_simp
                        refine hK _ _ ?_
                        clear hK K
                        refine wpAny_take (i := 20) (v := ?_) rfl (by kernel_rfl) (by kernel_rfl) (by kernel_rfl) (fun _ _ _ h => h) (Or.inl ⟨by kernel_rfl, ?_⟩) ?_
                        rotate_left
                        · intro w; go_simp; try with_reducible rfl
                        refine wpAny_take (i := 21) (v := ?_) rfl (by kernel_rfl) (by kernel_rfl) (by kernel_rfl) (fun _ _ _ h => h) (Or.inl ⟨by kernel_rfl, ?_⟩) ?_
                        rotate_left
                        · intro w; go_simp; try with_reducible rfl
                        refine wpAny_take (i := 22) (v := ?_) rfl (by kernel_rfl) (by kernel_rfl) (by kernel_rfl) (fun _ _ _ h => h) (Or.inl ⟨by kernel_rfl, ?_⟩) ?_
                        rotate_left
                        · intro w; go_simp; try with_reducible rfl
                        refine wpAny_take (i := 23) (v := ?_) rfl (by kernel_rfl) (by kernel_rfl) (by kernel_rfl) (fun _ _ _ h => h) (Or.inl ⟨by kernel_rfl, ?_⟩) ?_
                        rotate_left
                        · intro w; go_simp; try with_reducible rfl
                        refine wpAny_done (by kernel_rfl) ?_ _
                        go_wp2_with fail
                        go_ret
                        exact ⟨congrArg (fun b => Ending.returned (Value.bool b)) hbit.out, below_then (below_drew ((Below.refl _ _).alloc (Nat.le_refl _) _)) (by simp) hB7.out⟩
                      exact AllReady.nil
                    exact AllReady.nil
                  exact AllReady.nil
                refine AllReady.cons rfl (fun K hK => ?_) ?_
                · go_simp
                  refine hK _ _ ?_
                  clear hK K
                  refine wpAny_ready (rs := [15, 18]) (by kernel_rfl) (by simp) ?_
                  refine AllReady.cons rfl (fun K hK => ?_) ?_
                  · go_simp
                    go_wp2_with (go_at_call 27; refine (c4.out _).mono ?_; rintro e w7 ⟨rfl, hB7⟩; have p0 : w7.cell? ⟨w.heap.size, 0, none⟩ = some (.int .i64 (n : Int)) := (hB7.cell (by simp)).trans (by simp); have p5 : w7.cell? ⟨0, n, none⟩ = some (.int .i64 nk) := (hB7.cell (by simp)).trans (by simpa using q5); replace hB7 := Aside0.mk hB7)
                    refine wpAny_ready (rs := [18]) (by kernel_rfl) (by simp) ?_
                    refine AllReady.cons rfl (fun K hK => ?_) ?_
                    · go_simp
                      rw [if_pos hn15.out]
                      refine hK _ _ ?_
                      clear hK K
                      refine wpAny_ready (rs := [19]) (by kernel_rfl) (by simp) ?_
                      refine AllReady.cons rfl (fun K hK => ?_) ?_
                      · go_simp
                        refine hK _ _ ?_
                        clear hK K
                        refine wpAny_take (i := 20) (v := ?_) rfl (by kernel_rfl) (by kernel_rfl) (by kernel_rfl) (fun _ _ _ h => h) (Or.inl ⟨by kernel_rfl, ?_⟩) ?_
                        rotate_left
                        · intro w; go_simp; try with_reducible rfl
                        refine wpAny_take (i := 21) (v := ?_) rfl (by kernel_rfl) (by kernel_rfl) (by kernel_rfl) (fun _ _ _ h => h) (Or.inl ⟨by kernel_rfl, ?_⟩) ?_
                        rotate_left
                        · intro w; go_simp; try with_reducible rfl
                        refine wpAny_take (i := 22) (v := ?_) rfl (by kernel_rfl) (by kernel_rfl) (by kernel_rfl) (fun _ _ _ h => h) (Or.inl ⟨by kernel_rfl, ?_⟩) ?_
                        rotate_left
                        · intro w; go_simp; try with_reducible rfl
                        refine wpAny_take (i := 23) (v := ?_) rfl (by kernel_rfl) (by kernel_rfl) (by kernel_rfl) (fun _ _ _ h => h) (Or.inl ⟨by kernel_rfl, ?_⟩) ?_
                        rotate_left
                        · intro w; go_simp; try with_reducible rfl
                        refine wpAny_done (by kernel_rfl) ?_ _
                        go_wp2_with fail
                        go_ret
                        exact ⟨congrArg (fun b => Ending.returned (Value.bool b)) hbit.out, below_then (below_drew ((Below.refl _ _).alloc (Nat.le_refl _) _)) (by simp) hB7.out⟩
                      exact AllReady.nil
                    exact AllReady.nil
                  refine AllReady.cons rfl (fun K hK => ?_) ?_
                  · go_simp
                    rw [if_pos hn15.out]
                    refine hK _ _ ?_
                    clear hK K
                    refine wpAny_ready (rs := [15, 19]) (by kernel_rfl) (by simp) ?_
                    refine AllReady.cons rfl (fun K hK => ?_) ?_
                    · go_simp
                      go_wp2_with (go_at_call 27; refine (c4.out _).mono ?_; rintro e w7 ⟨rfl, hB7⟩; have p0 : w7.cell? ⟨w.heap.size, 0, none⟩ = some (.int .i64 (n : Int)) := (hB7.cell (by simp)).trans (by simp); have p5 : w7.cell? ⟨0, n, none⟩ = some (.int .i64 nk) := (hB7.cell (by simp)).trans (by simpa using q5); replace hB7 := Aside0.mk hB7)
                      refine wpAny_ready (rs := [19]) (by kernel_rfl) (by simp) ?_
                      refine AllReady.cons rfl (fun K hK => ?_) ?_
                      · go_simp
                        refine hK _ _ ?_
                        clear hK K
                        refine wpAny_take (i := 20) (v := ?_) rfl (by kernel_rfl) (by kernel_rfl) (by kernel_rfl) (fun _ _ _ h => h) (Or.inl ⟨by kernel_rfl, ?_⟩) ?_
                        rotate_left
                        · intro w; go_simp; try with_reducible rfl
                        refine wpAny_take (i := 21) (v := ?_) rfl (by kernel_rfl) (by kernel_rfl) (by kernel_rfl) (fun _ _ _ h => h) (Or.inl ⟨by kernel_rfl, ?_⟩) ?_
                        rotate_left
                        · intro w; go_simp; try with_reducible rfl
                        refine wpAny_take (i := 22) (v := ?_) rfl (by kernel_rfl) (by kernel_rfl) (by kernel_rfl) (fun _ _ _ h => h) (Or.inl ⟨by kernel_rfl, ?_⟩) ?_
                        rotate_left
                        · intro w; go_simp; try with_reducible rfl
                        refine wpAny_take (i := 23) (v := ?_) rfl (by kernel_rfl) (by kernel_rfl) (by kernel_rfl) (fun _ _ _ h => h) (Or.inl ⟨by kernel_rfl, ?_⟩) ?_
                        rotate_left
                        · intro w; go_simp; try with_reducible rfl
                        refine wpAny_done (by kernel_rfl) ?_ _
                        go_wp2_with fail
                        go_ret
                        exact ⟨congrArg (fun b => Ending.returned (Value.bool b)) hbit.out, below_then (below_drew ((Below.refl _ _).alloc (Nat.le_refl _) _)) (by simp) hB7.out⟩
                      exact AllReady.nil
                    refine AllReady.cons rfl (fun K hK => ?_) ?_
                    · go_simp
                      refine hK _ _ ?_
                      clear hK K
                      refine wpAny_ready (rs := [15]) (by kernel_rfl) (by simp) ?_
                      refine AllReady.cons rfl (fun K hK => ?_) ?_
                      · go_simp
                        go_wp2_with (go_at_call 27; refine (c4.out _).mono ?_; rintro e w7 ⟨rfl, hB7⟩; have p0 : w7.cell? ⟨w.heap.size, 0, none⟩ = some (.int .i64 (n : Int)) := (hB7.cell (by simp)).trans (by simp); have p5 : w7.cell? ⟨0, n, none⟩ = some (.int .i64 nk) := (hB7.cell (by simp)).trans (by simpa using q5); replace hB7 := Aside0.mk hB7)
                        refine wpAny_take (i := 20) (v := ?_) rfl (by kernel_rfl) (by kernel_rfl) (by kernel_rfl) (fun _ _ _ h => h) (Or.inl ⟨by kernel_rfl, ?_⟩) ?_
                        rotate_left
                        · intro w; go_simp; try with_reducible rfl
                        refine wpAny_take (i := 21) (v := ?_) rfl (by kernel_rfl) (by kernel_rfl) (by kernel_rfl) (fun _ _ _ h => h) (Or.inl ⟨by kernel_rfl, ?_⟩) ?_
                        rotate_left
                        · intro w; go_simp; try with_reducible rfl
                        refine wpAny_take (i := 22) (v := ?_) rfl (by kernel_rfl) (by kernel_rfl) (by kernel_rfl) (fun _ _ _ h => h) (Or.inl ⟨by kernel_rfl, ?_⟩) ?_
                        rotate_left
                        · intro w; go_simp; try with_reducible rfl
                        refine wpAny_take (i := 23) (v := ?_) rfl (by kernel_rfl) (by kernel_rfl) (by kernel_rfl) (fun _ _ _ h => h) (Or.inl ⟨by kernel_rfl, ?_⟩) ?_
                        rotate_left
                        · intro w; go_simp; try with_reducible rfl
                        refine wpAny_done (by kernel_rfl) ?_ _
                        go_wp2_with fail
                        go_ret
                        exact ⟨congrArg (fun b => Ending.returned (Value.bool b)) hbit.out, below_then (below_drew ((Below.refl _ _).alloc (Nat.le_refl _) _)) (by simp) hB7.out⟩
                      exact AllReady.nil
                    exact AllReady.nil
                  exact AllReady.nil
                exact AllReady.nil
              refine AllReady.cons rfl (fun K hK => ?_) ?_
              · go_simp
                refine hK _ _ ?_
                clear hK K
                refine wpAny_ready (rs := [14, 18]) (by kernel_rfl) (by simp) ?_
                refine AllReady.cons rfl (fun K hK => ?_) ?_
                · go_simp
                  refine hK _ _ ?_
                  clear hK K
                  refine wpAny_ready (rs := [15, 18]) (by kernel_rfl) (by simp) ?_
                  refine AllReady.cons rfl (fun K hK => ?_) ?_
                  · go_simp
                    go_wp2_with (go_at_call 27; refine (c4.out _).mono ?_; rintro e w7 ⟨rfl, hB7⟩; have p0 : w7.cell? ⟨w.heap.size, 0, none⟩ = some (.int .i64 (n : Int)) := (hB7.cell (by simp)).trans (by simp); have p5 : w7.cell? ⟨0, n, none⟩ = some (.int .i64 nk) := (hB7.cell (by simp)).trans (by simpa using q5); replace hB7 := Aside0.mk hB7)
                    refine wpAny_ready (rs := [18]) (by kernel_rfl) (by simp) ?_
                    refine AllReady.cons rfl (fun K hK => ?_) ?_
                    · go_simp
                      rw [if_pos hn15.out]
                      refine hK _ _ ?_
                      clear hK K
                      refine wpAny_ready (rs := [19]) (by kernel_rfl) (by simp) ?_
                      refine AllReady.cons rfl (fun K hK => ?_) ?_
                      · go_simp
                        refine hK _ _ ?_
                        clear hK K
                        refine wpAny_take (i := 20) (v := ?_) rfl (by kernel_rfl) (by kernel_rfl) (by kernel_rfl) (fun _ _ _ h => h) (Or.inl ⟨by kernel_rfl, ?_⟩) ?_
                        rotate_left
                        · intro w; go_simp; try with_reducible rfl
                        refine wpAny_take (i := 21) (v := ?_) rfl (by kernel_rfl) (by kernel_rfl) (by kernel_rfl) (fun _ _ _ h => h) (Or.inl ⟨by kernel_rfl, ?_⟩) ?_
                        rotate_left
                        · intro w; go_simp; try with_reducible rfl
                        refine wpAny_take (i := 22) (v := ?_) rfl (by kernel_rfl) (by kernel_rfl) (by kernel_rfl) (fun _ _ _ h => h) (Or.inl ⟨by kernel_rfl, ?_⟩) ?_
                        rotate_left
                        · intro w; go_simp; try with_reducible rfl
                        refine wpAny_take (i := 23) (v := ?_) rfl (by kernel_rfl) (by kernel_rfl) (by kernel_rfl) (fun _ _ _ h => h) (Or.inl ⟨by kernel_rfl, ?_⟩) ?_
                        rotate_left
                        · intro w; go_simp; try with_reducible rfl
                        refine wpAny_done (by kernel_rfl) ?_ _
                        go_wp2_with fail
                        go_ret
                        exact ⟨congrArg (fun b => Ending.returned (Value.bool b)) hbit.out, below_then (below_drew ((Below.refl _ _).alloc (Nat.le_refl _) _)) (by simp) hB7.out⟩
                      exact AllReady.nil
                    exact AllReady.nil
                  refine AllReady.cons rfl (fun K hK => ?_) ?_
                  · go_simp
                    rw [if_pos hn15.out]
                    refine hK _ _ ?_
                    clear hK K
                    refine wpAny_ready (rs := [15, 19]) (by kernel_rfl) (by simp) ?_
                    refine AllReady.cons rfl (fun K hK => ?_) ?_
                    · go_simp
                      go_wp2_with (go_at_call 27; refine (c4.out _).mono ?_; rintro e w7 ⟨rfl, hB7⟩; have p0 : w7.cell? ⟨w.heap.size, 0, none⟩ = some (.int .i64 (n : Int)) := (hB7.cell (by simp)).trans (by simp); have p5 : w7.cell? ⟨0, n, none⟩ = some (.int .i64 nk) := (hB7.cell (by simp)).trans (by simpa using q5); replace hB7 := Aside0.mk hB7)
                      refine wpAny_ready (rs := [19]) (by kernel_rfl) (by simp) ?_
                      refine AllReady.cons rfl (fun K hK => ?_) ?_
                      · go_simp
                        refine hK _ _ ?_
                        clear hK K
                        refine wpAny_take (i := 20) (v := ?_) rfl (by kernel_rfl) (by kernel_rfl) (by kernel_rfl) (fun _ _ _ h => h) (Or.inl ⟨by kernel_rfl, ?_⟩) ?_
                        rotate_left
                        · intro w; go_simp; try with_reducible rfl
                        refine wpAny_take (i := 21) (v := ?_) rfl (by kernel_rfl) (by kernel_rfl) (by kernel_rfl) (fun _ _ _ h => h) (Or.inl ⟨by kernel_rfl, ?_⟩) ?_
                        rotate_left
                        · intro w; go_simp; try with_reducible rfl
                        refine wpAny_take (i := 22) (v := ?_) rfl (by kernel_rfl) (by kernel_rfl) (by kernel_rfl) (fun _ _ _ h => h) (Or.inl ⟨by kernel_rfl, ?_⟩) ?_
                        rotate_left
                        · intro w; go_simp; try with_reducible rfl
                        refine wpAny_take (i := 23) (v := ?_) rfl (by kernel_rfl) (by kernel_rfl) (by kernel_rfl) (fun _ _ _ h => h) (Or.inl ⟨by kernel_rfl, ?_⟩) ?_
                        rotate_left
                        · intro w; go_simp; try with_reducible rfl
                        refine wpAny_done (by kernel_rfl) ?_ _
                        go_wp2_with fail
                        go_ret
                        exact ⟨congrArg (fun b => Ending.returned (Value.bool b)) hbit.out, below_then (below_drew ((Below.refl _ _).alloc (Nat.le_refl _) _)) (by simp) hB7.out⟩
                      exact AllReady.nil
                    refine AllReady.cons rfl (fun K hK => ?_) ?_
                    · go_simp
                      refine hK _ _ ?_
                      clear hK K
                      refine wpAny_ready (rs := [15]) (by kernel_rfl) (by simp) ?_
                      refine AllReady.cons rfl (fun K hK => ?_) ?_
                      · go_simp
                        go_wp2_with (go_at_call 27; refine (c4.out _).mono ?_; rintro e w7 ⟨rfl, hB7⟩; have p0 : w7.cell? ⟨w.heap.size, 0, none⟩ = some (.int .i64 (n : Int)) := (hB7.cell (by simp)).trans (by simp); have p5 : w7.cell? ⟨0, n, none⟩ = some (.int .i64 nk) := (hB7.cell (by simp)).trans (by simpa using q5); replace hB7 := Aside0.mk hB7)
                        refine wpAny_take (i := 20) (v := ?_) rfl (by kernel_rfl) (by kernel_rfl) (by kernel_rfl) (fun _ _ _ h => h) (Or.inl ⟨by kernel_rfl, ?_⟩) ?_
                        rotate_left
                        · intro w; go_simp; try with_reducible rfl
                        refine wpAny_take (i := 21) (v := ?_) rfl (by kernel_rfl) (by kernel_rfl) (by kernel_rfl) (fun _ _ _ h => h) (Or.inl ⟨by kernel_rfl, ?_⟩) ?_
                        rotate_left
                        · intro w; go_simp; try with_reducible rfl
                        refine wpAny_take (i := 22) (v := ?_) rfl (by kernel_rfl) (by kernel_rfl) (by kernel_rfl) (fun _ _ _ h => h) (Or.inl ⟨by kernel_rfl, ?_⟩) ?_
                        rotate_left
                        · intro w; go_simp; try with_reducible rfl
                        refine wpAny_take (i := 23) (v := ?_) rfl (by kernel_rfl) (by kernel_rfl) (by kernel_rfl) (fun _ _ _ h => h) (Or.inl ⟨by kernel_rfl, ?_⟩) ?_
                        rotate_left
                        · intro w; go_simp; try with_reducible rfl
                        refine wpAny_done (by kernel_rfl) ?_ _
                        go_wp2_with fail
                        go_ret
                        exact ⟨congrArg (fun b => Ending.returned (Value.bool b)) hbit.out, below_then (below_drew ((Below.refl _ _).alloc (Nat.le_refl _) _)) (by simp) hB7.out⟩
                      exact AllReady.nil
                    exact AllReady.nil
                  exact AllReady.nil
                refine AllReady.cons rfl (fun K hK => ?_) ?_
                · go_simp
                  rw [if_pos hn15.out]
                  refine hK _ _ ?_
                  clear hK K
                  refine wpAny_ready (rs := [14, 19]) (by kernel_rfl) (by simp) ?_
                  refine AllReady.cons rfl (fun K hK => ?_) ?_
                  · go_simp
                    refine hK _ _ ?_
                    clear hK K
                    refine wpAny_ready (rs := [15, 19]) (by kernel_rfl) (by simp) ?_
                    refine AllReady.cons rfl (fun K hK => ?_) ?_
                    · go_simp
                      go_wp2_with (go_at_call 27; refine (c4.out _).mono ?_; rintro e w7 ⟨rfl, hB7⟩; have p0 : w7.cell? ⟨w.heap.size, 0, none⟩ = some (.int .i64 (n : Int)) := (hB7.cell (by simp)).trans (by simp); have p5 : w7.cell? ⟨0, n, none⟩ = some (.int .i64 nk) := (hB7.cell (by simp)).trans (by simpa using q5); replace hB7 := Aside0.mk hB7)
                      refine wpAny_ready (rs := [19]) (by kernel_rfl) (by simp) ?_
                      refine AllReady.cons rfl (fun K hK => ?_) ?_
                      · go_simp
                        refine hK _ _ ?_
                        clear hK K
                        refine wpAny_take (i := 20) (v := ?_) rfl (by kernel_rfl) (by kernel_rfl) (by kernel_rfl) (fun _ _ _ h => h) (Or.inl ⟨by kernel_rfl, ?_⟩) ?_
                        rotate_left
                        · intro w; go_simp; try with_reducible rfl
                        refine wpAny_take (i := 21) (v := ?_) rfl (by kernel_rfl) (by kernel_rfl) (by kernel_rfl) (fun _ _ _ h => h) (Or.inl ⟨by kernel_rfl, ?_⟩) ?_
                        rotate_left
                        · intro w; go_simp; try with_reducible rfl
                        refine wpAny_take (i := 22) (v := ?_) rfl (by kernel_rfl) (by kernel_rfl) (by kernel_rfl) (fun _ _ _ h => h) (Or.inl ⟨by kernel_rfl, ?_⟩) ?_
                        rotate_left
                        · intro w; go_simp; try with_reducible rfl
                        refine wpAny_take (i := 23) (v := ?_) rfl (by kernel_rfl) (by kernel_rfl) (by kernel_rfl) (fun _ _ _ h => h) (Or.inl ⟨by kernel_rfl, ?_⟩) ?_
                        rotate_left
                        · intro w; go_simp; try with_reducible rfl
                        refine wpAny_done (by kernel_rfl) ?_ _
                        go_wp2_with fail
                        go_ret
                        exact ⟨congrArg (fun b => Ending.returned (Value.bool b)) hbit.out, below_then (below_drew ((Below.refl _ _).alloc (Nat.le_refl _) _)) (by simp) hB7.out⟩
                      exact AllReady.nil
                    refine AllReady.cons rfl (fun K hK => ?_) ?_
                    · go_simp
                      refine hK _ _ ?_
                      clear hK K
                      refine wpAny_ready (rs := [15]) (by kernel_rfl) (by simp) ?_
                      refine AllReady.cons rfl (fun K hK => ?_) ?_
                      · go_simp
                        go_wp2_with (go_at_call 27; refine (c4.out _).mono ?_; rintro e w7 ⟨rfl, hB7⟩; have p0 : w7.cell? ⟨w.heap.size, 0, none⟩ = some (.int .i64 (n : Int)) := (hB7.cell (by simp)).trans (by simp); have p5 : w7.cell? ⟨0, n, none⟩ = some (.int .i64 nk) := (hB7.cell (by simp)).trans (by simpa using q5); replace hB7 := Aside0.mk hB7)
                        refine wpAny_take (i := 20) (v := ?_) rfl (by kernel_rfl) (by kernel_rfl) (by kernel_rfl) (fun _ _ _ h => h) (Or.inl ⟨by kernel_rfl, ?_⟩) ?_
                        rotate_left
                        · intro w; go_simp; try with_reducible rfl
                        refine wpAny_take (i := 21) (v := ?_) rfl (by kernel_rfl) (by kernel_rfl) (by kernel_rfl) (fun _ _ _ h => h) (Or.inl ⟨by kernel_rfl, ?_⟩) ?_
                        rotate_left
                        · intro w; go_simp; try with_reducible rfl
                        refine wpAny_take (i := 22) (v := ?_) rfl (by kernel_rfl) (by kernel_rfl) (by kernel_rfl) (fun _ _ _ h => h) (Or.inl ⟨by kernel_rfl, ?_⟩) ?_
                        rotate_left
                        · intro w; go_simp; try with_reducible rfl
                        refine wpAny_take (i := 23) (v := ?_) rfl (by kernel_rfl) (by kernel_rfl) (by kernel_rfl) (fun _ _ _ h => h) (Or.inl ⟨by kernel_rfl, ?_⟩) ?_
                        rotate_left
                        · intro w; go_simp; try with_reducible rfl
                        refine wpAny_done (by kernel_rfl) ?_ _
                        go_wp2_with fail
                        go_ret
                        exact ⟨congrArg (fun b => Ending.returned (Value.bool b)) hbit.out, below_then (below_drew ((Below.refl _ _).alloc (Nat.le_refl _) _)) (by simp) hB7.out⟩
                      exact AllReady.nil
                    exact AllReady.nil
                  refine AllReady.cons rfl (fun K hK => ?_) ?_
                  · go_simp
                    refine hK _ _ ?_
                    clear hK K
                    refine wpAny_ready (rs := [14]) (by kernel_rfl) (by simp) ?_
                    refine AllReady.cons rfl (fun K hK => ?_) ?_
                    · go_simp
                      refine hK _ _ ?_
                      clear hK K
                      refine wpAny_ready (rs := [15]) (by kernel_rfl) (by simp) ?_
                      refine AllReady.cons rfl (fun K hK => ?_) ?_
                      · go_simp
                        go_wp2_with (go_at_call 27; refine (c4.out _).mono ?_; rintro e w7 ⟨rfl, hB7⟩; have p0 : w7.cell? ⟨w.heap.size, 0, none⟩ = some (.int .i64 (n : Int)) := (hB7.cell (by simp)).trans (by simp); have p5 : w7.cell? ⟨0, n, none⟩ = some (.int .i64 nk) := (hB7.cell (by simp)).trans (by simpa using q5); replace hB7 := Aside0.mk hB7)
                        refine wpAny_take (i := 20) (v := ?_) rfl (by kernel_rfl) (by kernel_rfl) (by kernel_rfl) (fun _ _ _ h => h) (Or.inl ⟨by kernel_rfl, ?_⟩) ?_
                        rotate_left
                        · intro w; go_simp; try with_reducible rfl
                        refine wpAny_take (i := 21) (v := ?_) rfl (by kernel_rfl) (by kernel_rfl) (by kernel_rfl) (fun _ _ _ h => h) (Or.inl ⟨by kernel_rfl, ?_⟩) ?_
                        rotate_left
                        · intro w; go_simp; try with_reducible rfl
                        refine wpAny_take (i := 22) (v := ?_) rfl (by kernel_rfl) (by kernel_rfl) (by kernel_rfl) (fun _ _ _ h => h) (Or.inl ⟨by kernel_rfl, ?_⟩) ?_
                        rotate_left
                        · intro w; go_simp; try with_reducible rfl
                        refine wpAny_take (i := 23) (v := ?_) rfl (by kernel_rfl) (by kernel_rfl) (by kernel_rfl) (fun _ _ _ h => h) (Or.inl ⟨by kernel_rfl, ?_⟩) ?_
                        rotate_left
                        · intro w; go_simp; try with_reducible rfl
                        refine wpAny_done (by kernel_rfl) ?_ _
                        go_wp2_with fail
                        go_ret
                        exact ⟨congrArg (fun b => Ending.returned (Value.bool b)) hbit.out, below_then (below_drew ((Below.refl _ _).alloc (Nat.le_refl _) _)) (by simp) hB7.out⟩
                      exact AllReady.nil
                    exact AllReady.nil
                  exact AllReady.nil
                exact AllReady.nil
              exact AllReady.nil
            exact AllReady.nil
          exact AllReady.nil
        exact AllReady.nil
      exact AllReady.nil
    exact AllReady.nil
  exact AllReady.nil
end Go.Proofs.YteapmebmgaggcaaDoor
