import Derived.Test.YteapmebmgaggcaaDoorVi
namespace Go.Proofs.YteapmebmgaggcaaDoor.PW
open Go.RowKit Go.Proofs.YteapmebmgaggcaaDoorW.PrintWords Go.Proofs.YteapmebmgaggcaaDoorW.PrintLast Go.Proofs.YteapmebmgaggcaaDoorW.PrintMore
attribute [local go_sem] max2_int min2_int max_two min_two max_three min_three max_four min_four   -- for this text's walks alone
set_option linter.unusedVariables false
set_option linter.unusedSimpArgs false

attribute [local go_sem high] eqA23 eqA30
/-! ### ringroadlaw26_WirePieces: function 6 -/
mutual
def ringroadlaw26_WirePieces.j0 : Nat → List Int → List (S30) → Bool → Option (Bool)
 | 0, _, _, _ => none
 | k + 1, x1, x8, x51 => if x51 = true then (some false) else (ringroadlaw26_WirePieces.l0 k x1 x8 0)
def ringroadlaw26_WirePieces.l0 : Nat → List Int → List (S30) → Int → Option (Bool)
 | 0, _, _, _ => none
 | k + 1, x1, x8, x10 => if x10 < (x8.length : Int) then (if 0 ≤ x10 then (if (!(((rd_T30 x8 x10).f0) == 0) || (!(((rd_T30 x8 x10).f1) == 0) || (!(((rd_T30 x8 x10).f2) == 0) || (!(((rd_T30 x8 x10).f3) == 0) || (!(((rd_T30 x8 x10).f4) == 0)))))) = true then ((wire_May.f ((rd_T30 x8 x10).f0) ((rd_T30 x8 x10).f1) ((rd_T30 x8 x10).f2) ((rd_T30 x8 x10).f3) ((rd_T30 x8 x10).f4)).bind fun t256 => (if t256 = true then (if (wrap64 ((wrap64 (12 * x10)) + 12)) > (x1.length : Int) then (some false) else (ringroadlaw26_WirePieces.l0 k x1 x8 (wrap64 (x10 + 1)))) else (some false))) else (if (wrap64 ((wrap64 (12 * x10)) + 12)) > (x1.length : Int) then (ringroadlaw26_WirePieces.l0 k x1 x8 (wrap64 (x10 + 1))) else (ringroadlaw26_WirePieces.l0 k x1 x8 (wrap64 (x10 + 1))))) else (none)) else (some true)
end
def ringroadlaw26_WirePieces.f (k : Nat) (a0_0 : Int) (a0_1 : Int) (a0_2 : Int) (a0_3 : Int) (a0_4 : Int) (l1 : List Int) : Option (Bool) := (ringroadlaw26_awake.f k).bind fun t229 => (if t229 = true then (if (l1.length : Int) > 2000 then (some true) else ((wire_Encode.f k a0_0 a0_1 a0_2 a0_3 a0_4 ([] : List (S30))).bind fun bt230 => (if bt230.2 = 0 then ((some (([] : List Int) : List Int)).bind fun y235 => (if y235.length + bt230.1.length < 140737488355328 then ((some (y235 ++ bt230.1 : List Int)).bind fun y238 => (if y238.length + l1.length < 140737488355328 then ((wire_Decode.f k (y238 ++ l1)).bind fun bt244 => (if bt244.2.2.2.2.2.2 = 0 then (if (!(bt244.1 == a0_0) || (!(bt244.2.1 == a0_1) || (!(bt244.2.2.1 == a0_2) || (!(bt244.2.2.2.1 == a0_3) || (!(bt244.2.2.2.2.1 == a0_4)))))) = true then (ringroadlaw26_WirePieces.j0 k l1 bt244.2.2.2.2.2.1 true) else (ringroadlaw26_WirePieces.j0 k l1 bt244.2.2.2.2.2.1 ((bt244.2.2.2.2.2.1.length : Int) != (wrap64 (Int.tdiv (wrap64 ((l1.length : Int) + 11)) 12))))) else (ringroadlaw26_WirePieces.j0 k l1 bt244.2.2.2.2.2.1 true))) else (none))) else (none))) else ((wire_Setup.f a0_0 a0_1 a0_2 a0_3 a0_4).bind fun t234 => (some (!t234)))))) else (some false))
theorem ringroadlaw26_WirePieces.mono_l : ∀ k, (∀ y0 y1 y2, LeO (ringroadlaw26_WirePieces.j0 k y0 y1 y2) (ringroadlaw26_WirePieces.j0 (k + 1) y0 y1 y2)) ∧ (∀ y0 y1 y2, LeO (ringroadlaw26_WirePieces.l0 k y0 y1 y2) (ringroadlaw26_WirePieces.l0 (k + 1) y0 y1 y2))
 | 0 => ⟨fun _ _ _ r h => by simp [ringroadlaw26_WirePieces.j0] at h, fun _ _ _ r h => by simp [ringroadlaw26_WirePieces.l0] at h⟩
 | k + 1 => by
  obtain ⟨ih0, ih1⟩ := ringroadlaw26_WirePieces.mono_l k
  refine ⟨?_, ?_⟩
  ·
   intro y0 y1 y2
   unfold ringroadlaw26_WirePieces.j0
   repeat' first
   | (with_reducible exact ih0 _ _ _)
   | (with_reducible exact ih1 _ _ _)
   | (with_reducible exact ringroadlaw26_awake.mono _)
   | (with_reducible exact wire_Decode.mono _ _)
   | (with_reducible exact wire_Encode.mono _ _ _ _ _ _ _)
   | (with_reducible exact LeO.refl _)
   | (with_reducible exact LeO.none _)
   | (with_reducible refine LeO.ite ?_ ?_)
   | (with_reducible refine LeO.bind ?_ (fun _ => ?_))
   | exact ih0 _ _ _
   | exact ih1 _ _ _
   | exact ringroadlaw26_awake.mono _
   | exact wire_Decode.mono _ _
   | exact wire_Encode.mono _ _ _ _ _ _ _
   | exact LeO.none _
   | refine LeO.ite ?_ ?_
   | refine LeO.bind ?_ (fun _ => ?_)
  ·
   intro y0 y1 y2
   unfold ringroadlaw26_WirePieces.l0
   repeat' first
   | (with_reducible exact ih0 _ _ _)
   | (with_reducible exact ih1 _ _ _)
   | (with_reducible exact ringroadlaw26_awake.mono _)
   | (with_reducible exact wire_Decode.mono _ _)
   | (with_reducible exact wire_Encode.mono _ _ _ _ _ _ _)
   | (with_reducible exact LeO.refl _)
   | (with_reducible exact LeO.none _)
   | (with_reducible refine LeO.ite ?_ ?_)
   | (with_reducible refine LeO.bind ?_ (fun _ => ?_))
   | exact ih0 _ _ _
   | exact ih1 _ _ _
   | exact ringroadlaw26_awake.mono _
   | exact wire_Decode.mono _ _
   | exact wire_Encode.mono _ _ _ _ _ _ _
   | exact LeO.none _
   | refine LeO.ite ?_ ?_
   | refine LeO.bind ?_ (fun _ => ?_)
theorem ringroadlaw26_WirePieces.mono : ∀ a0 a1 a2 a3 a4 a5 k, LeO (ringroadlaw26_WirePieces.f k a0 a1 a2 a3 a4 a5) (ringroadlaw26_WirePieces.f (k + 1) a0 a1 a2 a3 a4 a5) := by
 intro a0 a1 a2 a3 a4 a5 k
 obtain ⟨ih0, ih1⟩ := ringroadlaw26_WirePieces.mono_l k
 unfold ringroadlaw26_WirePieces.f
 repeat' first
   | (with_reducible exact ih0 _ _ _)
   | (with_reducible exact ih1 _ _ _)
   | (with_reducible exact ringroadlaw26_awake.mono _)
   | (with_reducible exact wire_Decode.mono _ _)
   | (with_reducible exact wire_Encode.mono _ _ _ _ _ _ _)
   | (with_reducible exact LeO.refl _)
   | (with_reducible exact LeO.none _)
   | (with_reducible refine LeO.ite ?_ ?_)
   | (with_reducible refine LeO.bind ?_ (fun _ => ?_))
   | exact ih0 _ _ _
   | exact ih1 _ _ _
   | exact ringroadlaw26_awake.mono _
   | exact wire_Decode.mono _ _
   | exact wire_Encode.mono _ _ _ _ _ _ _
   | exact LeO.none _
   | refine LeO.ite ?_ ?_
   | refine LeO.bind ?_ (fun _ => ?_)
theorem ringroadlaw26_WirePieces.j0_true {k : Nat} {x1 : List Int} {x8 : List S30} {r : Bool} (h : ringroadlaw26_WirePieces.j0 k x1 x8 true = some r) : r = false := by
 cases k with
 | zero => simp [ringroadlaw26_WirePieces.j0] at h
 | succ k => simp [ringroadlaw26_WirePieces.j0] at h; exact h
set_option maxHeartbeats 8000000 in
set_option maxRecDepth 100000 in
theorem ringroadlaw26_WirePieces.calls (k : Nat) (a0_0 : Int) (a0_1 : Int) (a0_2 : Int) (a0_3 : Int) (a0_4 : Int) (A1 : Option Addr) (c1 : Nat) (l1 : List Int) (r : Bool) (hr : r = true) (w : World) (hr1 : Kd.C (Kd.int .u8) w A1 l1.length l1) (hc1 : l1.length ≤ c1) (hN : NeedsOk w) (h : ringroadlaw26_WirePieces.f k a0_0 a0_1 a0_2 a0_3 a0_4 l1 = some r) :
  Calls Tryd.prog 6 #[.agg #[.int .i64 a0_0, .int .i64 a0_1, .int .i64 a0_2, .int .i64 a0_3, .int .i64 a0_4], .slice A1 l1.length c1] w fun e w' => e = .returned (.bool r) ∧ Below w.heap.size w w' := by
 have HN := Aside0.mk hN
 clear hN
 have hu23 := Tryd.underlying23
 have hu30 := Tryd.underlying30
 have HR1 := Aside0.mk hr1
 have HC1 := Aside0.mk hc1
 clear hr1 hc1
 have HB := Aside0.mk (Below.refl w.heap.size w)
 have H : ((ringroadlaw26_awake.f k).bind fun t229 => (if t229 = true then (if (l1.length : Int) > 2000 then (some true) else ((wire_Encode.f k a0_0 a0_1 a0_2 a0_3 a0_4 ([] : List (S30))).bind fun bt230 => (if bt230.2 = 0 then ((some (([] : List Int) : List Int)).bind fun y235 => (if y235.length + bt230.1.length < 140737488355328 then ((some (y235 ++ bt230.1 : List Int)).bind fun y238 => (if y238.length + l1.length < 140737488355328 then ((wire_Decode.f k (y238 ++ l1)).bind fun bt244 => (if bt244.2.2.2.2.2.2 = 0 then (if (!(bt244.1 == a0_0) || (!(bt244.2.1 == a0_1) || (!(bt244.2.2.1 == a0_2) || (!(bt244.2.2.2.1 == a0_3) || (!(bt244.2.2.2.2.1 == a0_4)))))) = true then (ringroadlaw26_WirePieces.j0 k l1 bt244.2.2.2.2.2.1 true) else (ringroadlaw26_WirePieces.j0 k l1 bt244.2.2.2.2.2.1 ((bt244.2.2.2.2.2.1.length : Int) != (wrap64 (Int.tdiv (wrap64 ((l1.length : Int) + 11)) 12))))) else (ringroadlaw26_WirePieces.j0 k l1 bt244.2.2.2.2.2.1 true))) else (none))) else (none))) else ((wire_Setup.f a0_0 a0_1 a0_2 a0_3 a0_4).bind fun t234 => (some (!t234)))))) else (some false))) = some r := h
 clear h
 replace H := Option.bind_eq_some_iff.mp H
 obtain ⟨t229, A30, H⟩ := H
 replace H : (if t229 = true then (if (l1.length : Int) > 2000 then (some true) else ((wire_Encode.f k a0_0 a0_1 a0_2 a0_3 a0_4 ([] : List (S30))).bind fun bt230 => (if bt230.2 = 0 then ((some (([] : List Int) : List Int)).bind fun y235 => (if y235.length + bt230.1.length < 140737488355328 then ((some (y235 ++ bt230.1 : List Int)).bind fun y238 => (if y238.length + l1.length < 140737488355328 then ((wire_Decode.f k (y238 ++ l1)).bind fun bt244 => (if bt244.2.2.2.2.2.2 = 0 then (if (!(bt244.1 == a0_0) || (!(bt244.2.1 == a0_1) || (!(bt244.2.2.1 == a0_2) || (!(bt244.2.2.2.1 == a0_3) || (!(bt244.2.2.2.2.1 == a0_4)))))) = true then (ringroadlaw26_WirePieces.j0 k l1 bt244.2.2.2.2.2.1 true) else (ringroadlaw26_WirePieces.j0 k l1 bt244.2.2.2.2.2.1 ((bt244.2.2.2.2.2.1.length : Int) != (wrap64 (Int.tdiv (wrap64 ((l1.length : Int) + 11)) 12))))) else (ringroadlaw26_WirePieces.j0 k l1 bt244.2.2.2.2.2.1 true))) else (none))) else (none))) else ((wire_Setup.f a0_0 a0_1 a0_2 a0_3 a0_4).bind fun t234 => (some (!t234)))))) else (some false)) = some r := H
 have A3 := Aside0.mk A30
 clear A30
 by_cases c4 : t229 = true
 ·
  subst c4
  have H1 : (if (l1.length : Int) > 2000 then (some true) else ((wire_Encode.f k a0_0 a0_1 a0_2 a0_3 a0_4 ([] : List (S30))).bind fun bt230 => (if bt230.2 = 0 then ((some (([] : List Int) : List Int)).bind fun y235 => (if y235.length + bt230.1.length < 140737488355328 then ((some (y235 ++ bt230.1 : List Int)).bind fun y238 => (if y238.length + l1.length < 140737488355328 then ((wire_Decode.f k (y238 ++ l1)).bind fun bt244 => (if bt244.2.2.2.2.2.2 = 0 then (if (!(bt244.1 == a0_0) || (!(bt244.2.1 == a0_1) || (!(bt244.2.2.1 == a0_2) || (!(bt244.2.2.2.1 == a0_3) || (!(bt244.2.2.2.2.1 == a0_4)))))) = true then (ringroadlaw26_WirePieces.j0 k l1 bt244.2.2.2.2.2.1 true) else (ringroadlaw26_WirePieces.j0 k l1 bt244.2.2.2.2.2.1 ((bt244.2.2.2.2.2.1.length : Int) != (wrap64 (Int.tdiv (wrap64 ((l1.length : Int) + 11)) 12))))) else (ringroadlaw26_WirePieces.j0 k l1 bt244.2.2.2.2.2.1 true))) else (none))) else (none))) else ((wire_Setup.f a0_0 a0_1 a0_2 a0_3 a0_4).bind fun t234 => (some (!t234)))))) = some r := by rw [if_pos rfl] at H; exact H
  clear H
  have H := H1
  clear H1
  by_cases c5 : (l1.length : Int) > 2000
  ·
   rw [if_pos c5] at H
   have c5b0 : decide (2000 < (l1.length : Int)) = true := decide_eq_true c5
   have c5b1 : decide (2000 < l1.length) = true := decide_eq_true (by omega)
   clear c5
   obtain rfl := Option.some.inj H
   go_enter Tryd.func6, Tryd.ntmps6
   go_wp2_with (first | ((with_reducible refine gate_dst (N := 2) rfl ?_); (try (refine gate_guard (by rfl) ?_; dsimp only)); refine box_event ?hg (N := 2) ?hd (cs := #[.int .i64 a0_0, .int .i64 a0_1, .int .i64 a0_2, .int .i64 a0_3, .int .i64 a0_4]) (t := 23) ?hr ?_; (case hd => rfl); (case hg => rfl); (case hr => first | (go_simp; done) | (go_simp; rfl)); intro gb228 hg w6 hbox hb; have n0_ := Aside0.mk (below_step (by repeat (first | (with_reducible first | exact HB.out | apply below_alloc | apply pw_below_drewN | apply below_drew1) | exact HB.out)) hb); have n1_ := Aside0.mk (hbox); have n2_ := Aside0.mk ((by rw [hg]; exact (below_size (by repeat (first | (with_reducible first | exact HB.out | apply below_alloc | apply pw_below_drewN | apply below_drew1) | exact HB.out))) : w.heap.size ≤ gb228)); have n3_ := Aside0.mk ((by rw [hg]; exact (below_size (by repeat (first | (with_reducible first | exact HB.out | apply below_alloc | apply pw_below_drewN | apply below_drew1) | exact HB.out))) : w.heap.size ≤ gb228)); clear HB; have HB := n0_; have BK228 := n1_; have GW228 := n2_; have GE228 := n3_; clear n0_ n1_ n2_ n3_; clear hb hbox hg) | ((with_reducible refine gate_callee (f := 9) rfl ?_); refine goesL_ (some 11) rfl rfl Tryd.func9 (by kernel_rfl) rfl #[] rfl (by (try simp only [List.map_toArray, List.map_cons, List.map_nil]); first | done | rfl | (simp only [List.length_drop, List.length_take]; rfl)) ?_; (with_reducible refine (ringroadlaw26_awake.calls k _ ?sideN A3.out).mono ?_); (case sideN => exact needs_now HN (by repeat (first | (with_reducible first | exact HB.out | apply below_alloc | apply pw_below_drewN | apply below_drew1 | refine below_set ?_ GE228.out) | exact HB.out))); rintro e w7 ⟨rfl, hb⟩; refine ⟨_, rfl, ?_⟩; have n0_ := Aside0.mk (blk_below (g := gb228) (o := .cells #[.int .i64 a0_0, .int .i64 a0_1, .int .i64 a0_2, .int .i64 a0_3, .int .i64 a0_4] 23 (0, 0)) (by (with_reducible repeat (first | refine blk_drewN ?_ _ | refine blk_drew ?_ | refine blk_alloc ?_ _)); exact BK228.out) hb); have n1_ := Aside0.mk (below_step (by repeat (first | (with_reducible first | exact HB.out | apply below_alloc | apply pw_below_drewN | apply below_drew1 | refine below_set ?_ GE228.out) | exact HB.out)) hb); clear BK228; clear HB; have BK228 := n0_; have HB := n1_; clear n0_ n1_; (try clear hb); (try clear hb2); (try clear hk); (try clear hi)))
   go_ret
   exact ⟨by first | rfl | (simp [errW_none, errW_some] <;> rfl) | (simp [*, errW_none, errW_some] <;> rfl), by repeat (first | (with_reducible first | exact HB.out | apply below_alloc | apply pw_below_drewN | apply below_drew1 | refine below_set ?_ GE228.out) | exact HB.out)⟩
  ·
   rw [if_neg c5] at H
   have c5b0 : decide (2000 < (l1.length : Int)) = false := decide_eq_false c5
   have c5b1 : decide (2000 < l1.length) = false := decide_eq_false (by omega)
   clear c5
   replace H := Option.bind_eq_some_iff.mp H
   obtain ⟨⟨t230, t233⟩, A80, H⟩ := H
   replace H : (if t233 = 0 then ((some (([] : List Int) : List Int)).bind fun y235 => (if y235.length + t230.length < 140737488355328 then ((some (y235 ++ t230 : List Int)).bind fun y238 => (if y238.length + l1.length < 140737488355328 then ((wire_Decode.f k (y238 ++ l1)).bind fun bt244 => (if bt244.2.2.2.2.2.2 = 0 then (if (!(bt244.1 == a0_0) || (!(bt244.2.1 == a0_1) || (!(bt244.2.2.1 == a0_2) || (!(bt244.2.2.2.1 == a0_3) || (!(bt244.2.2.2.2.1 == a0_4)))))) = true then (ringroadlaw26_WirePieces.j0 k l1 bt244.2.2.2.2.2.1 true) else (ringroadlaw26_WirePieces.j0 k l1 bt244.2.2.2.2.2.1 ((bt244.2.2.2.2.2.1.length : Int) != (wrap64 (Int.tdiv (wrap64 ((l1.length : Int) + 11)) 12))))) else (ringroadlaw26_WirePieces.j0 k l1 bt244.2.2.2.2.2.1 true))) else (none))) else (none))) else ((wire_Setup.f a0_0 a0_1 a0_2 a0_3 a0_4).bind fun t234 => (some (!t234)))) = some r := H
   have A8 := Aside0.mk A80
   clear A80
   by_cases c9 : t233 = 0
   ·
    rw [if_pos c9] at H
    have c9b0 : (t233 == 0) = true := beq_iff_eq.mpr c9
    have c9b1 : (t233 != 0) = false := bne_eq_false_iff_eq.mpr c9
    clear c9
    obtain ⟨y235, hy235⟩ : ∃ y_ : List Int, y_ = (([] : List Int)) := ⟨_, rfl⟩
    replace H : (if y235.length + t230.length < 140737488355328 then ((some (y235 ++ t230 : List Int)).bind fun y238 => (if y238.length + l1.length < 140737488355328 then ((wire_Decode.f k (y238 ++ l1)).bind fun bt244 => (if bt244.2.2.2.2.2.2 = 0 then (if (!(bt244.1 == a0_0) || (!(bt244.2.1 == a0_1) || (!(bt244.2.2.1 == a0_2) || (!(bt244.2.2.2.1 == a0_3) || (!(bt244.2.2.2.2.1 == a0_4)))))) = true then (ringroadlaw26_WirePieces.j0 k l1 bt244.2.2.2.2.2.1 true) else (ringroadlaw26_WirePieces.j0 k l1 bt244.2.2.2.2.2.1 ((bt244.2.2.2.2.2.1.length : Int) != (wrap64 (Int.tdiv (wrap64 ((l1.length : Int) + 11)) 12))))) else (ringroadlaw26_WirePieces.j0 k l1 bt244.2.2.2.2.2.1 true))) else (none))) else (none)) = some r := by first | (rw [hy235]; with_reducible exact H) | (have H2_ := (Option.bind_some _ _).symm.trans H; rw [hy235]; with_reducible exact H2_) | (have H2_ := (Option.bind_some _ _).symm.trans H; with_reducible exact H2_) | with_reducible exact H | (rw [hy235]; exact H) | exact H
    have Ny235 := Aside0.mk hy235
    clear hy235
    by_cases c10 : y235.length + t230.length < 140737488355328
    ·
     rw [if_pos c10] at H
     have LMc10 := Aside0.mk c10
     clear c10
     obtain ⟨y238, hy238⟩ : ∃ y_ : List Int, y_ = (y235 ++ t230) := ⟨_, rfl⟩
     replace H : (if y238.length + l1.length < 140737488355328 then ((wire_Decode.f k (y238 ++ l1)).bind fun bt244 => (if bt244.2.2.2.2.2.2 = 0 then (if (!(bt244.1 == a0_0) || (!(bt244.2.1 == a0_1) || (!(bt244.2.2.1 == a0_2) || (!(bt244.2.2.2.1 == a0_3) || (!(bt244.2.2.2.2.1 == a0_4)))))) = true then (ringroadlaw26_WirePieces.j0 k l1 bt244.2.2.2.2.2.1 true) else (ringroadlaw26_WirePieces.j0 k l1 bt244.2.2.2.2.2.1 ((bt244.2.2.2.2.2.1.length : Int) != (wrap64 (Int.tdiv (wrap64 ((l1.length : Int) + 11)) 12))))) else (ringroadlaw26_WirePieces.j0 k l1 bt244.2.2.2.2.2.1 true))) else (none)) = some r := by first | (rw [hy238]; with_reducible exact H) | (have H2_ := (Option.bind_some _ _).symm.trans H; rw [hy238]; with_reducible exact H2_) | (have H2_ := (Option.bind_some _ _).symm.trans H; with_reducible exact H2_) | with_reducible exact H | (rw [hy238]; exact H) | exact H
     have Ny238 := Aside0.mk hy238
     clear hy238
     by_cases c11 : y238.length + l1.length < 140737488355328
     ·
      rw [if_pos c11] at H
      have LMc11 := Aside0.mk c11
      clear c11
      obtain ⟨y241, hy241⟩ : ∃ y_ : List Int, y_ = (y238 ++ l1) := ⟨_, rfl⟩
      replace H : ((wire_Decode.f k y241).bind fun bt244 => (if bt244.2.2.2.2.2.2 = 0 then (if (!(bt244.1 == a0_0) || (!(bt244.2.1 == a0_1) || (!(bt244.2.2.1 == a0_2) || (!(bt244.2.2.2.1 == a0_3) || (!(bt244.2.2.2.2.1 == a0_4)))))) = true then (ringroadlaw26_WirePieces.j0 k l1 bt244.2.2.2.2.2.1 true) else (ringroadlaw26_WirePieces.j0 k l1 bt244.2.2.2.2.2.1 ((bt244.2.2.2.2.2.1.length : Int) != (wrap64 (Int.tdiv (wrap64 ((l1.length : Int) + 11)) 12))))) else (ringroadlaw26_WirePieces.j0 k l1 bt244.2.2.2.2.2.1 true))) = some r := by first | (rw [hy241]; with_reducible exact H) | (have H2_ := (Option.bind_some _ _).symm.trans H; rw [hy241]; with_reducible exact H2_) | (have H2_ := (Option.bind_some _ _).symm.trans H; with_reducible exact H2_) | with_reducible exact H | (rw [hy241]; exact H) | exact H
      have Ny241 := Aside0.mk hy241
      clear hy241
      replace H := Option.bind_eq_some_iff.mp H
      obtain ⟨⟨t244, t245, t246, t247, t248, t249, t252⟩, A120, H⟩ := H
      replace H : (if t252 = 0 then (if (!(t244 == a0_0) || (!(t245 == a0_1) || (!(t246 == a0_2) || (!(t247 == a0_3) || (!(t248 == a0_4)))))) = true then (ringroadlaw26_WirePieces.j0 k l1 t249 true) else (ringroadlaw26_WirePieces.j0 k l1 t249 ((t249.length : Int) != (wrap64 (Int.tdiv (wrap64 ((l1.length : Int) + 11)) 12))))) else (ringroadlaw26_WirePieces.j0 k l1 t249 true)) = some r := H
      have A12 := Aside0.mk A120
      clear A120
      have HC13 := Aside0.mk H
      clear H
      go_enter Tryd.func6, Tryd.ntmps6
      go_upto_region 9 with (first | ((with_reducible refine gate_dst (N := 2) rfl ?_); (try (refine gate_guard (by rfl) ?_; dsimp only)); refine box_event ?hg (N := 2) ?hd (cs := #[.int .i64 a0_0, .int .i64 a0_1, .int .i64 a0_2, .int .i64 a0_3, .int .i64 a0_4]) (t := 23) ?hr ?_; (case hd => rfl); (case hg => rfl); (case hr => first | (go_simp; done) | (go_simp; rfl)); intro gb228 hg w14 hbox hb; have n0_ := Aside0.mk (below_step (by repeat (first | (with_reducible first | exact HB.out | apply below_alloc | apply pw_below_drewN | apply below_drew1) | exact HB.out)) hb); have n1_ := Aside0.mk (hbox); have n2_ := Aside0.mk ((by rw [hg]; exact (below_size (by repeat (first | (with_reducible first | exact HB.out | apply below_alloc | apply pw_below_drewN | apply below_drew1) | exact HB.out))) : w.heap.size ≤ gb228)); have n3_ := Aside0.mk ((by rw [hg]; exact (below_size (by repeat (first | (with_reducible first | exact HB.out | apply below_alloc | apply pw_below_drewN | apply below_drew1) | exact HB.out))) : w.heap.size ≤ gb228)); clear HB; have HB := n0_; have BK228 := n1_; have GW228 := n2_; have GE228 := n3_; clear n0_ n1_ n2_ n3_; clear hb hbox hg) | ((with_reducible refine gate_callee (f := 9) rfl ?_); refine goesL_ (some 11) rfl rfl Tryd.func9 (by kernel_rfl) rfl #[] rfl (by (try simp only [List.map_toArray, List.map_cons, List.map_nil]); first | done | rfl | (simp only [List.length_drop, List.length_take]; rfl)) ?_; (with_reducible refine (ringroadlaw26_awake.calls k _ ?sideN A3.out).mono ?_); (case sideN => exact needs_now HN (by repeat (first | (with_reducible first | exact HB.out | apply below_alloc | apply pw_below_drewN | apply below_drew1 | refine below_set ?_ GE228.out) | exact HB.out))); rintro e w15 ⟨rfl, hb⟩; refine ⟨_, rfl, ?_⟩; have n0_ := Aside0.mk (blk_below (g := gb228) (o := .cells #[.int .i64 a0_0, .int .i64 a0_1, .int .i64 a0_2, .int .i64 a0_3, .int .i64 a0_4] 23 (0, 0)) (by (with_reducible repeat (first | refine blk_drewN ?_ _ | refine blk_drew ?_ | refine blk_alloc ?_ _)); exact BK228.out) hb); have n1_ := Aside0.mk (below_step (by repeat (first | (with_reducible first | exact HB.out | apply below_alloc | apply pw_below_drewN | apply below_drew1 | refine below_set ?_ GE228.out) | exact HB.out)) hb); clear BK228; clear HB; have BK228 := n0_; have HB := n1_; clear n0_ n1_; (try clear hb); (try clear hb2); (try clear hk); (try clear hi); have hcz16_0 : w15.cell? ⟨gb228, 0, none⟩ = some (.int .i64 a0_0) := (blk_cell BK228.out 0).trans rfl; have hcz16_1 : w15.cell? ⟨gb228, 1, none⟩ = some (.int .i64 a0_1) := (blk_cell BK228.out 1).trans rfl; have hcz16_2 : w15.cell? ⟨gb228, 2, none⟩ = some (.int .i64 a0_2) := (blk_cell BK228.out 2).trans rfl; have hcz16_3 : w15.cell? ⟨gb228, 3, none⟩ = some (.int .i64 a0_3) := (blk_cell BK228.out 3).trans rfl; have hcz16_4 : w15.cell? ⟨gb228, 4, none⟩ = some (.int .i64 a0_4) := (blk_cell BK228.out 4).trans rfl; have hfz16_0 := blk_frozen BK228.out 0; have hfz16_1 := blk_frozen BK228.out 1; have hfz16_2 := blk_frozen BK228.out 2; have hfz16_3 := blk_frozen BK228.out 3; have hfz16_4 := blk_frozen BK228.out 4) | ((with_reducible refine gate_callee (f := 14) rfl ?_); refine goesL_ (some 18) rfl rfl Tryd.func14 (by kernel_rfl) rfl #[.agg #[.int .i64 a0_0, .int .i64 a0_1, .int .i64 a0_2, .int .i64 a0_3, .int .i64 a0_4], .slice none 0 0] rfl (by (try simp only [List.map_toArray, List.map_cons, List.map_nil]); first | done | rfl | (simp only [List.length_drop, List.length_take]; rfl)) ?_; (refine (wire_Encode.calls k a0_0 a0_1 a0_2 a0_3 a0_4 _ _ ([] : List (S30)) t230 t233 _ ?side1 ?side2 ?sideN A8.out).mono ?_); (case sideN => exact needs_now HN (by repeat (first | (with_reducible first | exact HB.out | apply below_alloc | apply pw_below_drewN | apply below_drew1 | refine below_set ?_ GE228.out) | exact HB.out))); (case side1 => exact Kd.C_nil _ _); (case side2 => exact Nat.le_refl _); rintro e w17 ⟨v231, rfl, ho0, hb⟩; refine ⟨_, rfl, ?_⟩; have n0_ := Aside0.mk (Kd.R_lower ho0 (below_size (by repeat (first | (with_reducible first | exact HB.out | apply below_alloc | apply pw_below_drewN | apply below_drew1 | refine below_set ?_ GE228.out) | exact HB.out)))); have n1_ := Aside0.mk (blk_below (g := gb228) (o := .cells #[.int .i64 a0_0, .int .i64 a0_1, .int .i64 a0_2, .int .i64 a0_3, .int .i64 a0_4] 23 (0, 0)) (by (with_reducible repeat (first | refine blk_drewN ?_ _ | refine blk_drew ?_ | refine blk_alloc ?_ _)); exact BK228.out) hb); have n2_ := Aside0.mk (below_step (by repeat (first | (with_reducible first | exact HB.out | apply below_alloc | apply pw_below_drewN | apply below_drew1 | refine below_set ?_ GE228.out) | exact HB.out)) hb); clear BK228; clear HB; have HO232 := n0_; have BK228 := n1_; have HB := n2_; clear n0_ n1_ n2_; (try clear hb); (try clear hb2); (try clear hk); (try clear hi); (try clear ho0)) | ((with_reducible refine gate_dst (N := 27) rfl ?_); (try (refine gate_guard (by rfl) ?_; dsimp only)); refine Kd.R_lit (Kd.int .u8) _ 5 ?hg (N := 27) ?hd (xs := ([] : List Int)) (inner := []) (ok := fun _ => True) (okp := fun _ => True) ?hr ?hp (fun _ hk => hk) trivial (Below.refl _ _) (Nat.le_refl _) (by simp) ?_; (case hd => rfl); (case hg => rfl); (case hr => first | (go_simp; done) | (go_simp; rfl)); (case hp => exact (Reps.none _ _)); intro v236 w18 ho19 hb hg_ hnew_; clear hg_ hnew_; (first | rw [← Ny235.out] at ho19 | (simp only [Int.reduceToNat] at ho19; rw [← Ny235.out] at ho19)); have n0_ := Aside0.mk (Kd.R_elder' (by (with_reducible repeat (first | apply Kd.R_alloc | apply Kd.R_drewN | apply Kd.R_drew)); exact HO232.out) (Kd.R_base ho19) hb); have n1_ := Aside0.mk (Kd.R_lower (Kd.R_new' ho19 (Kd.R_lt (by (with_reducible repeat (first | apply Kd.R_alloc | apply Kd.R_drewN | apply Kd.R_drew)); exact HO232.out))) (below_size (by repeat (first | (with_reducible first | exact HB.out | apply below_alloc | apply pw_below_drewN | apply below_drew1 | refine below_set ?_ GE228.out) | exact HB.out)))); have n2_ := Aside0.mk (blk_below (g := gb228) (o := .cells #[.int .i64 a0_0, .int .i64 a0_1, .int .i64 a0_2, .int .i64 a0_3, .int .i64 a0_4] 23 (0, 0)) (by (with_reducible repeat (first | refine blk_drewN ?_ _ | refine blk_drew ?_ | refine blk_alloc ?_ _)); exact BK228.out) hb); have n3_ := Aside0.mk (below_step (by repeat (first | (with_reducible first | exact HB.out | apply below_alloc | apply pw_below_drewN | apply below_drew1 | refine below_set ?_ GE228.out) | exact HB.out)) hb); clear HO232; clear BK228; clear HB; have HO232 := n0_; have HO237 := n1_; have BK228 := n2_; have HB := n3_; clear n0_ n1_ n2_ n3_; clear hb ho19; obtain ⟨Ao21, co21, eo21⟩ := Kd.R_slice HO232.out; subst eo21) | ((with_reducible refine gate_builtin (b := .append) (xs := #[.tmp 27, .tmp 28]) rfl ?_); (try (refine gate_guard (by rfl) ?_; dsimp only)); at_builtin; refine Kd.R_append_rows (Kd.int .u8) (w0 := w) w.heap.size rfl (.tmp 27) (.tmp 28) 31 5 (.int .u8 0) 1 rfl Tryd.underlying31 info5 rfl (by decide) (by omega) v236 y235 t230 _ _ _ (fun k_ => some k_ ≠ (.slice Ao21 t230.length co21 : Value).ownBlock) (fun _ => False) rfl rfl ?aO ?aR (fun _ _ h => h) (fun _ h => h.elim) ?aF ?aB ?aS ?aL ?_; (case aR => repeat (first | exact (Kd.R_reads' HO232.out).2.2 | (with_reducible refine Kd.C_alloc ?_ _) | (with_reducible refine Kd.C_drewN ?_ _) | (with_reducible refine Kd.C_drew ?_))); (case aB => exact (by repeat (first | (with_reducible first | exact HB.out | apply below_alloc | apply pw_below_drewN | apply below_drew1 | refine below_set ?_ GE228.out) | exact HB.out))); (case aF => exact (fun k_ hk => Kd.fresh' (Kd.R_lt (by (with_reducible repeat (first | apply Kd.R_alloc | apply Kd.R_drewN | apply Kd.R_drew)); exact HO232.out)) k_ hk)); (case aO => exact (by (with_reducible repeat (first | apply Kd.R_alloc | apply Kd.R_drewN | apply Kd.R_drew)); exact Kd.R_mono HO237.out (fun _ hk => hk.2))); (case aS => exact (below_size (by repeat (first | (with_reducible first | exact HB.out | apply below_alloc | apply pw_below_drewN | apply below_drew1 | refine below_set ?_ GE228.out) | exact HB.out)))); (case aL => have := LMc10.out; omega); intro v239 w20 ho hb hg hat; rw [← Ny238.out] at ho; have n0_ := Aside0.mk (blk_grown (g := gb228) (o := .cells #[.int .i64 a0_0, .int .i64 a0_1, .int .i64 a0_2, .int .i64 a0_3, .int .i64 a0_4] 23 (0, 0)) (by (with_reducible repeat (first | refine blk_drewN ?_ _ | refine blk_drew ?_ | refine blk_alloc ?_ _)); exact BK228.out) hg (Kd.R_ne HO237.out BK228.out (by decide))); have n1_ := Aside0.mk (Kd.R_after (ok := (fun _ => True)) (by (with_reducible repeat (first | apply Kd.R_alloc | apply Kd.R_drewN | apply Kd.R_drew)); exact HO232.out) hg hat); have n2_ := Aside0.mk (hb); have n3_ := Aside0.mk (ho); clear BK228; clear HO232; clear HB; clear HO237; have BK228 := n0_; have HO232 := n1_; have HB := n2_; have HO240 := n3_; clear n0_ n1_ n2_ n3_; clear ho hb hg hat) | ((with_reducible refine gate_builtin (b := .append) (xs := #[.tmp 29, .tmp 30]) rfl ?_); (try (refine gate_guard (by rfl) ?_; dsimp only)); at_builtin; refine Kd.R_append_rows (Kd.int .u8) (w0 := w) w.heap.size rfl (.tmp 29) (.tmp 30) 31 5 (.int .u8 0) 1 rfl Tryd.underlying31 info5 rfl (by decide) (by omega) v239 y238 l1 _ _ _ (fun k_ => some k_ ≠ (.slice Ao21 t230.length co21 : Value).ownBlock) (fun _ => False) rfl rfl ?aO ?aR (fun _ _ h => h) (fun _ h => h.elim) ?aF ?aB ?aS ?aL ?_; (case aR => repeat (first | exact (Kd.C_below HR1.out HB.out) | (with_reducible refine Kd.C_alloc ?_ _) | (with_reducible refine Kd.C_drewN ?_ _) | (with_reducible refine Kd.C_drew ?_))); (case aB => exact (by repeat (first | (with_reducible first | exact HB.out | apply below_alloc | apply pw_below_drewN | apply below_drew1 | refine below_set ?_ GE228.out) | exact HB.out))); (case aF => exact (fun k_ hk => Kd.fresh' (Kd.R_lt (by (with_reducible repeat (first | apply Kd.R_alloc | apply Kd.R_drewN | apply Kd.R_drew)); exact HO232.out)) k_ hk)); (case aO => exact (by (with_reducible repeat (first | apply Kd.R_alloc | apply Kd.R_drewN | apply Kd.R_drew)); exact HO240.out)); (case aS => exact (below_size (by repeat (first | (with_reducible first | exact HB.out | apply below_alloc | apply pw_below_drewN | apply below_drew1 | refine below_set ?_ GE228.out) | exact HB.out)))); (case aL => have := LMc11.out; omega); intro v242 w22 ho hb hg hat; rw [← Ny241.out] at ho; have n0_ := Aside0.mk (blk_grown (g := gb228) (o := .cells #[.int .i64 a0_0, .int .i64 a0_1, .int .i64 a0_2, .int .i64 a0_3, .int .i64 a0_4] 23 (0, 0)) (by (with_reducible repeat (first | refine blk_drewN ?_ _ | refine blk_drew ?_ | refine blk_alloc ?_ _)); exact BK228.out) hg (Kd.R_ne HO240.out BK228.out (by decide))); have n1_ := Aside0.mk (Kd.R_after (ok := (fun _ => True)) (by (with_reducible repeat (first | apply Kd.R_alloc | apply Kd.R_drewN | apply Kd.R_drew)); exact HO232.out) hg hat); have n2_ := Aside0.mk (hb); have n3_ := Aside0.mk (ho); clear BK228; clear HO232; clear HB; clear HO240; have BK228 := n0_; have HO232 := n1_; have HB := n2_; have HO243 := n3_; clear n0_ n1_ n2_ n3_; clear ho hb hg hat; obtain ⟨Ao23, co23, eo23⟩ := Kd.R_slice HO243.out; subst eo23) | ((with_reducible refine gate_callee (f := 15) rfl ?_); refine goesL_ (some 32) rfl rfl Tryd.func15 (by kernel_rfl) rfl #[.slice Ao23 y241.length co23] rfl (by (try simp only [List.map_toArray, List.map_cons, List.map_nil]); first | done | rfl | (simp only [List.length_drop, List.length_take]; rfl)) ?_; (with_reducible refine (wire_Decode.calls k _ _ y241 t244 t245 t246 t247 t248 t249 t252 _ ?side1 ?side2 ?sideN A12.out).mono ?_); (case sideN => exact needs_now HN (by repeat (first | (with_reducible first | exact HB.out | apply below_alloc | apply pw_below_drewN | apply below_drew1 | refine below_set ?_ GE228.out) | exact HB.out))); (case side1 => repeat (first | exact (Kd.R_reads' HO243.out).2.2 | (with_reducible refine Kd.C_alloc ?_ _) | (with_reducible refine Kd.C_drewN ?_ _) | (with_reducible refine Kd.C_drew ?_))); (case side2 => exact (Kd.R_reads' HO243.out).2.1); rintro e w24 ⟨v250, rfl, ho0, hb⟩; refine ⟨_, rfl, ?_⟩; have n0_ := Aside0.mk (Kd.R_below (by (with_reducible repeat (first | apply Kd.R_alloc | apply Kd.R_drewN | apply Kd.R_drew)); exact HO232.out) hb); have n1_ := Aside0.mk (Kd.R_below (by (with_reducible repeat (first | apply Kd.R_alloc | apply Kd.R_drewN | apply Kd.R_drew)); exact HO243.out) hb); have n2_ := Aside0.mk (Kd.R_lower ho0 (below_size (by repeat (first | (with_reducible first | exact HB.out | apply below_alloc | apply pw_below_drewN | apply below_drew1 | refine below_set ?_ GE228.out) | exact HB.out)))); have n3_ := Aside0.mk (blk_below (g := gb228) (o := .cells #[.int .i64 a0_0, .int .i64 a0_1, .int .i64 a0_2, .int .i64 a0_3, .int .i64 a0_4] 23 (0, 0)) (by (with_reducible repeat (first | refine blk_drewN ?_ _ | refine blk_drew ?_ | refine blk_alloc ?_ _)); exact BK228.out) hb); have n4_ := Aside0.mk (below_step (by repeat (first | (with_reducible first | exact HB.out | apply below_alloc | apply pw_below_drewN | apply below_drew1 | refine below_set ?_ GE228.out) | exact HB.out)) hb); clear HO232; clear HO243; clear BK228; clear HB; have HO232 := n0_; have HO243 := n1_; have HO251 := n2_; have BK228 := n3_; have HB := n4_; clear n0_ n1_ n2_ n3_ n4_; (try clear hb); (try clear hb2); (try clear hk); (try clear hi); (try clear ho0)) | ((with_reducible refine gate_dst (N := 7) rfl ?_); (try (refine gate_guard (by rfl) ?_; dsimp only)); refine box_event ?hg (N := 7) ?hd (cs := #[.int .i64 0, .int .i64 0, .int .i64 0, .int .i64 0, .int .i64 0]) (t := 23) ?hr ?_; (case hd => rfl); (case hg => rfl); (case hr => first | (go_simp; done) | (go_simp; rfl)); intro gb253 hg w25 hbox hb; have n0_ := Aside0.mk (Kd.R_below (by (with_reducible repeat (first | apply Kd.R_alloc | apply Kd.R_drewN | apply Kd.R_drew)); exact HO232.out) hb); have n1_ := Aside0.mk (Kd.R_below (by (with_reducible repeat (first | apply Kd.R_alloc | apply Kd.R_drewN | apply Kd.R_drew)); exact HO243.out) hb); have n2_ := Aside0.mk (Kd.R_below (by (with_reducible repeat (first | apply Kd.R_alloc | apply Kd.R_drewN | apply Kd.R_drew)); exact HO251.out) hb); have n3_ := Aside0.mk (blk_below (g := gb228) (o := .cells #[.int .i64 a0_0, .int .i64 a0_1, .int .i64 a0_2, .int .i64 a0_3, .int .i64 a0_4] 23 (0, 0)) (by (with_reducible repeat (first | refine blk_drewN ?_ _ | refine blk_drew ?_ | refine blk_alloc ?_ _)); exact BK228.out) hb); have n4_ := Aside0.mk (below_step (by repeat (first | (with_reducible first | exact HB.out | apply below_alloc | apply pw_below_drewN | apply below_drew1 | refine below_set ?_ GE228.out) | exact HB.out)) hb); have n5_ := Aside0.mk (hbox); have n6_ := Aside0.mk ((by rw [hg]; exact (below_size (by repeat (first | (with_reducible first | exact HB.out | apply below_alloc | apply pw_below_drewN | apply below_drew1 | refine below_set ?_ GE228.out) | exact HB.out))) : w.heap.size ≤ gb253)); have n7_ := Aside0.mk ((by rw [hg]; exact (below_size (by repeat (first | (with_reducible first | exact HB.out | apply below_alloc | apply pw_below_drewN | apply below_drew1 | refine below_set ?_ GE228.out) | exact HB.out))) : w.heap.size ≤ gb253)); have n8_ := Aside0.mk ((by rw [hg]; exact Nat.ne_of_lt (blk_lt (g := gb228) (o := .cells #[.int .i64 a0_0, .int .i64 a0_1, .int .i64 a0_2, .int .i64 a0_3, .int .i64 a0_4] 23 (0, 0)) (by (with_reducible repeat (first | refine blk_drewN ?_ _ | refine blk_drew ?_ | refine blk_alloc ?_ _)); exact BK228.out)) : gb228 ≠ gb253)); have n9_ := Aside0.mk ((by rw [hg]; exact Nat.ne_of_gt (blk_lt (g := gb228) (o := .cells #[.int .i64 a0_0, .int .i64 a0_1, .int .i64 a0_2, .int .i64 a0_3, .int .i64 a0_4] 23 (0, 0)) (by (with_reducible repeat (first | refine blk_drewN ?_ _ | refine blk_drew ?_ | refine blk_alloc ?_ _)); exact BK228.out)) : gb253 ≠ gb228)); clear HO232; clear HO243; clear HO251; clear BK228; clear HB; have HO232 := n0_; have HO243 := n1_; have HO251 := n2_; have BK228 := n3_; have HB := n4_; have BK253 := n5_; have GW253 := n6_; have GE253 := n7_; have NB228_253 := n8_; have NB253_228 := n9_; clear n0_ n1_ n2_ n3_ n4_ n5_ n6_ n7_ n8_ n9_; clear hb hbox hg; have hnb26 := NB253_228.out; have hnc26 := NB228_253.out; have hcz27_0 : w25.cell? ⟨gb253, 0, none⟩ = some (.int .i64 0) := (blk_cell BK253.out 0).trans rfl; have hcz27_1 : w25.cell? ⟨gb253, 1, none⟩ = some (.int .i64 0) := (blk_cell BK253.out 1).trans rfl; have hcz27_2 : w25.cell? ⟨gb253, 2, none⟩ = some (.int .i64 0) := (blk_cell BK253.out 2).trans rfl; have hcz27_3 : w25.cell? ⟨gb253, 3, none⟩ = some (.int .i64 0) := (blk_cell BK253.out 3).trans rfl; have hcz27_4 : w25.cell? ⟨gb253, 4, none⟩ = some (.int .i64 0) := (blk_cell BK253.out 4).trans rfl; have hfz27_0 := blk_frozen BK253.out 0; have hfz27_1 := blk_frozen BK253.out 1; have hfz27_2 := blk_frozen BK253.out 2; have hfz27_3 := blk_frozen BK253.out 3; have hfz27_4 := blk_frozen BK253.out 4))
      (try simp only [Act.put, List.setIfInBounds_toArray, List.set_cons_zero, List.set_cons_succ])
      go_cut [51] (fun v51 wc => ∃ (kq : Nat) (x51_12 : Bool), v51 = .bool x51_12 ∧ Aside0 (ringroadlaw26_WirePieces.j0 kq l1 t249 x51_12 = some r) ∧ Aside0 (kq ≤ k) ∧ Aside0 (Kd.R k30 30 wc w.heap.size (fun _ => True) v250 t249) ∧ Aside0 (wc.heap[gb228]? = some (.cells #[.int .i64 a0_0, .int .i64 a0_1, .int .i64 a0_2, .int .i64 a0_3, .int .i64 a0_4] 23 (0, 0))) ∧ Aside0 (wc.heap[gb253]? = some (.cells #[.int .i64 t244, .int .i64 t245, .int .i64 t246, .int .i64 t247, .int .i64 t248] 23 (0, 0))) ∧ Aside0 (Below w.heap.size w wc))
      case first =>
       have H := HC13.out
       clear HC13
       by_cases c28 : t252 = 0
       ·
        rw [if_pos c28] at H
        have c28b0 : (t252 == 0) = true := beq_iff_eq.mpr c28
        have c28b1 : (t252 != 0) = false := bne_eq_false_iff_eq.mpr c28
        clear c28
        (first | rw [c28b0] | (simp only [i64_w, i32_w]; rw [c28b0]) | skip)
        by_cases c29 : (!(t244 == a0_0) || (!(t245 == a0_1) || (!(t246 == a0_2) || (!(t247 == a0_3) || (!(t248 == a0_4)))))) = true
        ·
         rw [if_pos c29] at H; exact absurd (hr.symm.trans (ringroadlaw26_WirePieces.j0_true H)) (by decide)
        ·
         rw [if_neg c29] at H
         have c29b0 : (!(t244 == a0_0) || (!(t245 == a0_1) || (!(t246 == a0_2) || (!(t247 == a0_3) || (!(t248 == a0_4)))))) = false := by simpa using c29
         clear c29
         have H' := Aside0.mk H
         clear H
         have hnb33 := NB253_228.out
         have hnc33 := NB228_253.out
         have hcz34_0 : w25.cell? ⟨gb253, 0, none⟩ = some (.int .i64 0) := (blk_cell BK253.out 0).trans rfl
         have hcz34_1 : w25.cell? ⟨gb253, 1, none⟩ = some (.int .i64 0) := (blk_cell BK253.out 1).trans rfl
         have hcz34_2 : w25.cell? ⟨gb253, 2, none⟩ = some (.int .i64 0) := (blk_cell BK253.out 2).trans rfl
         have hcz34_3 : w25.cell? ⟨gb253, 3, none⟩ = some (.int .i64 0) := (blk_cell BK253.out 3).trans rfl
         have hcz34_4 : w25.cell? ⟨gb253, 4, none⟩ = some (.int .i64 0) := (blk_cell BK253.out 4).trans rfl
         have hfz34_0 := blk_frozen BK253.out 0
         have hfz34_1 := blk_frozen BK253.out 1
         have hfz34_2 := blk_frozen BK253.out 2
         have hfz34_3 := blk_frozen BK253.out 3
         have hfz34_4 := blk_frozen BK253.out 4
         have hcz35_0 : w25.cell? ⟨gb228, 0, none⟩ = some (.int .i64 a0_0) := (blk_cell BK228.out 0).trans rfl
         have hcz35_1 : w25.cell? ⟨gb228, 1, none⟩ = some (.int .i64 a0_1) := (blk_cell BK228.out 1).trans rfl
         have hcz35_2 : w25.cell? ⟨gb228, 2, none⟩ = some (.int .i64 a0_2) := (blk_cell BK228.out 2).trans rfl
         have hcz35_3 : w25.cell? ⟨gb228, 3, none⟩ = some (.int .i64 a0_3) := (blk_cell BK228.out 3).trans rfl
         have hcz35_4 : w25.cell? ⟨gb228, 4, none⟩ = some (.int .i64 a0_4) := (blk_cell BK228.out 4).trans rfl
         have hfz35_0 := blk_frozen BK228.out 0
         have hfz35_1 := blk_frozen BK228.out 1
         have hfz35_2 := blk_frozen BK228.out 2
         have hfz35_3 := blk_frozen BK228.out 3
         have hfz35_4 := blk_frozen BK228.out 4
         obtain ⟨Ao36, co36, eo36⟩ := Kd.R_slice HO251.out
         subst eo36
         go_wp2
         go_meet
         case rel => exact ⟨_, (((t249.length : Int) != (wrap64 (Int.tdiv (wrap64 ((l1.length : Int) + 11)) 12)))), (by first | rfl | (simp; done) | (simp [*]; done)), H', ⟨by first | omega | exact Nat.le_refl _⟩, ⟨by (with_reducible repeat (first | apply Kd.R_alloc | apply Kd.R_drewN | apply Kd.R_drew)); exact Kd.R_mono (Kd.R_far (p := ⟨gb253, 4, none⟩) (Kd.R_far (p := ⟨gb253, 3, none⟩) (Kd.R_far (p := ⟨gb253, 2, none⟩) (Kd.R_far (p := ⟨gb253, 1, none⟩) (Kd.R_far (p := ⟨gb253, 0, none⟩) (Kd.R_types HO251.out BK253.out (by decide)) (fun _ hk => hk.2) (.int .i64 t244)) (fun _ hk => hk.2) (.int .i64 t245)) (fun _ hk => hk.2) (.int .i64 t246)) (fun _ hk => hk.2) (.int .i64 t247)) (fun _ hk => hk.2) (.int .i64 t248)) (fun _ hk => trivial)⟩, ⟨by (with_reducible repeat (first | refine blk_drewN ?_ _ | refine blk_drew ?_ | refine blk_alloc ?_ _)); refine blk_far ?_ NB228_253.out _; (with_reducible repeat (first | refine blk_drewN ?_ _ | refine blk_drew ?_ | refine blk_alloc ?_ _)); refine blk_far ?_ NB228_253.out _; (with_reducible repeat (first | refine blk_drewN ?_ _ | refine blk_drew ?_ | refine blk_alloc ?_ _)); refine blk_far ?_ NB228_253.out _; (with_reducible repeat (first | refine blk_drewN ?_ _ | refine blk_drew ?_ | refine blk_alloc ?_ _)); refine blk_far ?_ NB228_253.out _; (with_reducible repeat (first | refine blk_drewN ?_ _ | refine blk_drew ?_ | refine blk_alloc ?_ _)); refine blk_far ?_ NB228_253.out _; (with_reducible repeat (first | refine blk_drewN ?_ _ | refine blk_drew ?_ | refine blk_alloc ?_ _)); exact BK228.out⟩, ⟨by (with_reducible repeat (first | refine blk_drewN ?_ _ | refine blk_drew ?_ | refine blk_alloc ?_ _)); refine blk_put (cs := #[.int .i64 t244, .int .i64 t245, .int .i64 t246, .int .i64 t247, .int .i64 0]) ?_ 4 _ rfl; (with_reducible repeat (first | refine blk_drewN ?_ _ | refine blk_drew ?_ | refine blk_alloc ?_ _)); refine blk_put (cs := #[.int .i64 t244, .int .i64 t245, .int .i64 t246, .int .i64 0, .int .i64 0]) ?_ 3 _ rfl; (with_reducible repeat (first | refine blk_drewN ?_ _ | refine blk_drew ?_ | refine blk_alloc ?_ _)); refine blk_put (cs := #[.int .i64 t244, .int .i64 t245, .int .i64 0, .int .i64 0, .int .i64 0]) ?_ 2 _ rfl; (with_reducible repeat (first | refine blk_drewN ?_ _ | refine blk_drew ?_ | refine blk_alloc ?_ _)); refine blk_put (cs := #[.int .i64 t244, .int .i64 0, .int .i64 0, .int .i64 0, .int .i64 0]) ?_ 1 _ rfl; (with_reducible repeat (first | refine blk_drewN ?_ _ | refine blk_drew ?_ | refine blk_alloc ?_ _)); refine blk_put (cs := #[.int .i64 0, .int .i64 0, .int .i64 0, .int .i64 0, .int .i64 0]) ?_ 0 _ rfl; (with_reducible repeat (first | refine blk_drewN ?_ _ | refine blk_drew ?_ | refine blk_alloc ?_ _)); exact BK253.out⟩, ⟨by repeat (first | (with_reducible first | exact HB.out | apply below_alloc | apply pw_below_drewN | apply below_drew1 | refine below_set ?_ GE228.out | refine below_set ?_ GE253.out) | exact HB.out)⟩⟩
       ·
        rw [if_neg c28] at H; exact absurd (hr.symm.trans (ringroadlaw26_WirePieces.j0_true H)) (by decide)
      case rest =>
       clear HC13
       try clear c1
       try clear c2
       try clear p2
       try clear c3
       try clear c4
       try clear c5
       try clear c5b0
       try clear c5b1
       try clear c6
       try clear p6
       try clear c9
       try clear c9b0
       try clear c9b1
       try clear c10
       try clear c11
       try clear c14
       try clear c15
       try clear c26
       try clear c28
       try clear c28b0
       try clear c28b1
       try clear c29
       try clear c29b0
       try clear c30
       try clear c33
       try clear hcz16_0
       try clear hcz16_1
       try clear hcz16_2
       try clear hcz16_3
       try clear hcz16_4
       try clear hcz27_0
       try clear hcz27_1
       try clear hcz27_2
       try clear hcz27_3
       try clear hcz27_4
       try clear hcz31_0
       try clear hcz31_1
       try clear hcz31_2
       try clear hcz31_3
       try clear hcz31_4
       try clear hcz32_0
       try clear hcz32_1
       try clear hcz32_2
       try clear hcz32_3
       try clear hcz32_4
       try clear hcz34_0
       try clear hcz34_1
       try clear hcz34_2
       try clear hcz34_3
       try clear hcz34_4
       try clear hcz35_0
       try clear hcz35_1
       try clear hcz35_2
       try clear hcz35_3
       try clear hcz35_4
       try clear hfz16_0
       try clear hfz16_1
       try clear hfz16_2
       try clear hfz16_3
       try clear hfz16_4
       try clear hfz27_0
       try clear hfz27_1
       try clear hfz27_2
       try clear hfz27_3
       try clear hfz27_4
       try clear hfz31_0
       try clear hfz31_1
       try clear hfz31_2
       try clear hfz31_3
       try clear hfz31_4
       try clear hfz32_0
       try clear hfz32_1
       try clear hfz32_2
       try clear hfz32_3
       try clear hfz32_4
       try clear hfz34_0
       try clear hfz34_1
       try clear hfz34_2
       try clear hfz34_3
       try clear hfz34_4
       try clear hfz35_0
       try clear hfz35_1
       try clear hfz35_2
       try clear hfz35_3
       try clear hfz35_4
       obtain ⟨kq, x51_12, rfl, HA, HJ12, HO_8, BK228, BK253, HB⟩ := hcut
       cases kq with
       | zero => exact absurd HA.out (by simp [ringroadlaw26_WirePieces.j0])
       | succ kj12 =>
        have H := HA.out
        clear HA
        simp only [ringroadlaw26_WirePieces.j0] at H
        by_cases c37 : x51_12 = true
        ·
         subst c37; rw [if_pos rfl] at H; cases (Option.some.inj H).trans hr
        ·
         replace c37 := Bool.eq_false_iff.mpr c37
         subst c37
         have H1 : (ringroadlaw26_WirePieces.l0 kj12 l1 t249 0) = some r := by rw [if_neg (show ¬ (false = true) by decide)] at H; exact H
         clear H
         have H := H1
         clear H1
         have H' := Aside0.mk H
         clear H
         go_wp2
         go_loopg [10] kj12 (fun kq v10 w' => ∃ (x10_2 : Int), v10 = .int .i64 x10_2 ∧ Aside0 (ringroadlaw26_WirePieces.l0 kq l1 t249 x10_2 = some r) ∧ Aside0 (kq ≤ kj12) ∧ Aside0 (Kd.R k30 30 w' w.heap.size (fun _ => True) v250 t249) ∧ Aside0 (w'.heap[gb228]? = some (.cells #[.int .i64 a0_0, .int .i64 a0_1, .int .i64 a0_2, .int .i64 a0_3, .int .i64 a0_4] 23 (0, 0))) ∧ Aside0 (w'.heap[gb253]? = some (.cells #[.int .i64 t244, .int .i64 t245, .int .i64 t246, .int .i64 t247, .int .i64 t248] 23 (0, 0))) ∧ Aside0 (Below w.heap.size w w'))
         case atStart => exact ⟨(0), (by first | rfl | (simp; done) | (simp [*]; done)), H', ⟨Nat.le_refl _⟩, ⟨by (with_reducible repeat (first | apply Kd.R_alloc | apply Kd.R_drewN | apply Kd.R_drew)); exact HO_8.out⟩, ⟨by (with_reducible repeat (first | refine blk_drewN ?_ _ | refine blk_drew ?_ | refine blk_alloc ?_ _)); exact BK228.out⟩, ⟨by (with_reducible repeat (first | refine blk_drewN ?_ _ | refine blk_drew ?_ | refine blk_alloc ?_ _)); exact BK253.out⟩, ⟨by repeat (first | (with_reducible first | exact HB.out | apply below_alloc | apply pw_below_drewN | apply below_drew1 | refine below_set ?_ GE228.out | refine below_set ?_ GE253.out) | exact HB.out)⟩⟩
         case round =>
          clear H'
          try clear c1
          try clear c2
          try clear p2
          try clear c3
          try clear c4
          try clear c5
          try clear c5b0
          try clear c5b1
          try clear c6
          try clear p6
          try clear c9
          try clear c9b0
          try clear c9b1
          try clear c10
          try clear c11
          try clear c14
          try clear c15
          try clear c26
          try clear c28
          try clear c28b0
          try clear c28b1
          try clear c29
          try clear c29b0
          try clear c30
          try clear c33
          try clear c37
          try clear hcz16_0
          try clear hcz16_1
          try clear hcz16_2
          try clear hcz16_3
          try clear hcz16_4
          try clear hcz27_0
          try clear hcz27_1
          try clear hcz27_2
          try clear hcz27_3
          try clear hcz27_4
          try clear hcz31_0
          try clear hcz31_1
          try clear hcz31_2
          try clear hcz31_3
          try clear hcz31_4
          try clear hcz32_0
          try clear hcz32_1
          try clear hcz32_2
          try clear hcz32_3
          try clear hcz32_4
          try clear hcz34_0
          try clear hcz34_1
          try clear hcz34_2
          try clear hcz34_3
          try clear hcz34_4
          try clear hcz35_0
          try clear hcz35_1
          try clear hcz35_2
          try clear hcz35_3
          try clear hcz35_4
          try clear hfz16_0
          try clear hfz16_1
          try clear hfz16_2
          try clear hfz16_3
          try clear hfz16_4
          try clear hfz27_0
          try clear hfz27_1
          try clear hfz27_2
          try clear hfz27_3
          try clear hfz27_4
          try clear hfz31_0
          try clear hfz31_1
          try clear hfz31_2
          try clear hfz31_3
          try clear hfz31_4
          try clear hfz32_0
          try clear hfz32_1
          try clear hfz32_2
          try clear hfz32_3
          try clear hfz32_4
          try clear hfz34_0
          try clear hfz34_1
          try clear hfz34_2
          try clear hfz34_3
          try clear hfz34_4
          try clear hfz35_0
          try clear hfz35_1
          try clear hfz35_2
          try clear hfz35_3
          try clear hfz35_4
          try clear p2
          try clear p6
          obtain ⟨x10_2, rfl, HA, HK2, HO_8, BK228, BK253, HB⟩ := hrel
          cases gk with
          | zero => exact absurd HA.out (by simp [ringroadlaw26_WirePieces.l0])
          | succ k2 =>
           have H := HA.out
           clear HA
           simp only [ringroadlaw26_WirePieces.l0] at H
           by_cases c38 : x10_2 < (t249.length : Int)
           ·
            rw [if_pos c38] at H
            have c38b0 : decide (x10_2 < (t249.length : Int)) = true := decide_eq_true c38
            clear c38
            by_cases c39 : 0 ≤ x10_2
            ·
             rw [if_pos c39] at H
             have c39b0 : decide (0 ≤ x10_2) = true := decide_eq_true c39
             clear c39
             by_cases c40 : (!(((rd_T30 t249 x10_2).f0) == 0) || (!(((rd_T30 t249 x10_2).f1) == 0) || (!(((rd_T30 t249 x10_2).f2) == 0) || (!(((rd_T30 t249 x10_2).f3) == 0) || (!(((rd_T30 t249 x10_2).f4) == 0)))))) = true
             ·
              rw [if_pos c40] at H
              have c40b0 : (!(((rd_T30 t249 x10_2).f0) == 0) || (!(((rd_T30 t249 x10_2).f1) == 0) || (!(((rd_T30 t249 x10_2).f2) == 0) || (!(((rd_T30 t249 x10_2).f3) == 0) || (!(((rd_T30 t249 x10_2).f4) == 0)))))) = true := c40
              clear c40
              replace H := Option.bind_eq_some_iff.mp H
              obtain ⟨t256, A410, H⟩ := H
              replace H : (if t256 = true then (if (wrap64 ((wrap64 (12 * x10_2)) + 12)) > (l1.length : Int) then (some false) else (ringroadlaw26_WirePieces.l0 k2 l1 t249 (wrap64 (x10_2 + 1)))) else (some false)) = some r := H
              have A41 := Aside0.mk A410
              clear A410
              by_cases c42 : t256 = true
              ·
               subst c42
               have H1 : (if (wrap64 ((wrap64 (12 * x10_2)) + 12)) > (l1.length : Int) then (some false) else (ringroadlaw26_WirePieces.l0 k2 l1 t249 (wrap64 (x10_2 + 1)))) = some r := by rw [if_pos rfl] at H; exact H
               clear H
               have H := H1
               clear H1
               by_cases c43 : (wrap64 ((wrap64 (12 * x10_2)) + 12)) > (l1.length : Int)
               ·
                rw [if_pos c43] at H; cases (Option.some.inj H).trans hr
               ·
                rw [if_neg c43] at H
                have c43b0 : decide ((l1.length : Int) < (wrap64 ((wrap64 (12 * x10_2)) + 12))) = false := decide_eq_false c43
                clear c43
                have H' := Aside0.mk H
                clear H
                obtain ⟨Ao46, co46, eo46⟩ := Kd.R_slice HO_8.out
                subst eo46
                have p254 : 0 ≤ (x10_2 : Int) := of_decide_eq_true (by first | (with_reducible assumption) | assumption)
                have q254 : x10_2 < (t249.length : Int) := of_decide_eq_true (by first | (with_reducible assumption) | assumption)
                obtain ⟨ad254, e254, hx254_0, hx254_1, hx254_2, hx254_3, hx254_4⟩ := at_T30 (Kd.R_reads' HO_8.out).2.2 x10_2 p254 q254
                cases e254
                replace p254 := eq_true p254
                replace q254 := eq_true q254
                have p255 : 0 ≤ (x10_2 : Int) := of_decide_eq_true (by first | (with_reducible assumption) | assumption)
                have q255 : x10_2 < (t249.length : Int) := of_decide_eq_true (by first | (with_reducible assumption) | assumption)
                obtain ⟨ad255, e255, hx255_0, hx255_1, hx255_2, hx255_3, hx255_4⟩ := at_T30 (Kd.R_reads' HO_8.out).2.2 x10_2 p255 q255
                obtain rfl : ad254 = ad255 := (by injection e255)
                replace p255 := eq_true p255
                replace q255 := eq_true q255
                go_wp2_with (first | (go_at_call 12; (with_reducible refine (wire_May.calls ((rd_T30 t249 x10_2).f0) ((rd_T30 t249 x10_2).f1) ((rd_T30 t249 x10_2).f2) ((rd_T30 t249 x10_2).f3) ((rd_T30 t249 x10_2).f4) true _ ?sideN A41.out).mono ?_); (case sideN => exact needs_now HN (by repeat (first | (with_reducible first | exact HB.out | apply below_alloc | apply pw_below_drewN | apply below_drew1 | refine below_set ?_ GE228.out | refine below_set ?_ GE253.out) | exact HB.out))); rintro e w47 ⟨rfl, hb⟩; have n0_ := Aside0.mk (Kd.R_below (by (with_reducible repeat (first | apply Kd.R_alloc | apply Kd.R_drewN | apply Kd.R_drew)); exact HO_8.out) hb); have n1_ := Aside0.mk (blk_below (g := gb228) (o := .cells #[.int .i64 a0_0, .int .i64 a0_1, .int .i64 a0_2, .int .i64 a0_3, .int .i64 a0_4] 23 (0, 0)) (by (with_reducible repeat (first | refine blk_drewN ?_ _ | refine blk_drew ?_ | refine blk_alloc ?_ _)); exact BK228.out) hb); have n2_ := Aside0.mk (blk_below (g := gb253) (o := .cells #[.int .i64 t244, .int .i64 t245, .int .i64 t246, .int .i64 t247, .int .i64 t248] 23 (0, 0)) (by (with_reducible repeat (first | refine blk_drewN ?_ _ | refine blk_drew ?_ | refine blk_alloc ?_ _)); exact BK253.out) hb); have n3_ := Aside0.mk (below_step (by repeat (first | (with_reducible first | exact HB.out | apply below_alloc | apply pw_below_drewN | apply below_drew1 | refine below_set ?_ GE228.out | refine below_set ?_ GE253.out) | exact HB.out)) hb); clear HO_8; clear BK228; clear BK253; clear HB; have HO_8 := n0_; have BK228 := n1_; have BK253 := n2_; have HB := n3_; clear n0_ n1_ n2_ n3_; (try clear hb); (try clear hb2); (try clear hk); (try clear hi)))
                go_roundg k2
                case measure => have := HJ12.out; have := HK2.out; omega
                case rel => exact ⟨(wrap64 (x10_2 + 1)), (by first | rfl | (simp; done) | (simp [*]; done)), H', ⟨by have := HJ12.out; have := HK2.out; omega⟩, ⟨by (with_reducible repeat (first | apply Kd.R_alloc | apply Kd.R_drewN | apply Kd.R_drew)); exact HO_8.out⟩, ⟨by (with_reducible repeat (first | refine blk_drewN ?_ _ | refine blk_drew ?_ | refine blk_alloc ?_ _)); exact BK228.out⟩, ⟨by (with_reducible repeat (first | refine blk_drewN ?_ _ | refine blk_drew ?_ | refine blk_alloc ?_ _)); exact BK253.out⟩, ⟨by repeat (first | (with_reducible first | exact HB.out | apply below_alloc | apply pw_below_drewN | apply below_drew1 | refine below_set ?_ GE228.out | refine below_set ?_ GE253.out) | exact HB.out)⟩⟩
              ·
               rw [if_neg c42] at H; cases (Option.some.inj H).trans hr
             ·
              rw [if_neg c40] at H
              have c40b0 : (!(((rd_T30 t249 x10_2).f0) == 0) || (!(((rd_T30 t249 x10_2).f1) == 0) || (!(((rd_T30 t249 x10_2).f2) == 0) || (!(((rd_T30 t249 x10_2).f3) == 0) || (!(((rd_T30 t249 x10_2).f4) == 0)))))) = false := by simpa using c40
              clear c40
              by_cases c50 : (wrap64 ((wrap64 (12 * x10_2)) + 12)) > (l1.length : Int)
              ·
               rw [if_pos c50] at H
               have c50b0 : decide ((l1.length : Int) < (wrap64 ((wrap64 (12 * x10_2)) + 12))) = true := decide_eq_true c50
               clear c50
               have H' := Aside0.mk H
               clear H
               obtain ⟨Ao51, co51, eo51⟩ := Kd.R_slice HO_8.out
               subst eo51
               have p254 : 0 ≤ (x10_2 : Int) := of_decide_eq_true (by first | (with_reducible assumption) | assumption)
               have q254 : x10_2 < (t249.length : Int) := of_decide_eq_true (by first | (with_reducible assumption) | assumption)
               obtain ⟨ad254, e254, hx254_0, hx254_1, hx254_2, hx254_3, hx254_4⟩ := at_T30 (Kd.R_reads' HO_8.out).2.2 x10_2 p254 q254
               cases e254
               replace p254 := eq_true p254
               replace q254 := eq_true q254
               have p258 : 0 ≤ (x10_2 : Int) := of_decide_eq_true (by first | (with_reducible assumption) | assumption)
               have q258 : x10_2 < (t249.length : Int) := of_decide_eq_true (by first | (with_reducible assumption) | assumption)
               obtain ⟨ad258, e258, hx258_0, hx258_1, hx258_2, hx258_3, hx258_4⟩ := at_T30 (Kd.R_reads' HO_8.out).2.2 x10_2 p258 q258
               obtain rfl : ad254 = ad258 := (by injection e258)
               replace p258 := eq_true p258
               replace q258 := eq_true q258
               go_wp2
               go_roundg k2
               case measure => have := HJ12.out; have := HK2.out; omega
               case rel => exact ⟨(wrap64 (x10_2 + 1)), (by first | rfl | (simp; done) | (simp [*]; done)), H', ⟨by have := HJ12.out; have := HK2.out; omega⟩, ⟨by (with_reducible repeat (first | apply Kd.R_alloc | apply Kd.R_drewN | apply Kd.R_drew)); exact HO_8.out⟩, ⟨by (with_reducible repeat (first | refine blk_drewN ?_ _ | refine blk_drew ?_ | refine blk_alloc ?_ _)); exact BK228.out⟩, ⟨by (with_reducible repeat (first | refine blk_drewN ?_ _ | refine blk_drew ?_ | refine blk_alloc ?_ _)); exact BK253.out⟩, ⟨by repeat (first | (with_reducible first | exact HB.out | apply below_alloc | apply pw_below_drewN | apply below_drew1 | refine below_set ?_ GE228.out | refine below_set ?_ GE253.out) | exact HB.out)⟩⟩
              ·
               rw [if_neg c50] at H
               have c50b0 : decide ((l1.length : Int) < (wrap64 ((wrap64 (12 * x10_2)) + 12))) = false := decide_eq_false c50
               clear c50
               have H' := Aside0.mk H
               clear H
               obtain ⟨Ao52, co52, eo52⟩ := Kd.R_slice HO_8.out
               subst eo52
               have p254 : 0 ≤ (x10_2 : Int) := of_decide_eq_true (by first | (with_reducible assumption) | assumption)
               have q254 : x10_2 < (t249.length : Int) := of_decide_eq_true (by first | (with_reducible assumption) | assumption)
               obtain ⟨ad254, e254, hx254_0, hx254_1, hx254_2, hx254_3, hx254_4⟩ := at_T30 (Kd.R_reads' HO_8.out).2.2 x10_2 p254 q254
               cases e254
               replace p254 := eq_true p254
               replace q254 := eq_true q254
               go_wp2
               go_roundg k2
               case measure => have := HJ12.out; have := HK2.out; omega
               case rel => exact ⟨(wrap64 (x10_2 + 1)), (by first | rfl | (simp; done) | (simp [*]; done)), H', ⟨by have := HJ12.out; have := HK2.out; omega⟩, ⟨by (with_reducible repeat (first | apply Kd.R_alloc | apply Kd.R_drewN | apply Kd.R_drew)); exact HO_8.out⟩, ⟨by (with_reducible repeat (first | refine blk_drewN ?_ _ | refine blk_drew ?_ | refine blk_alloc ?_ _)); exact BK228.out⟩, ⟨by (with_reducible repeat (first | refine blk_drewN ?_ _ | refine blk_drew ?_ | refine blk_alloc ?_ _)); exact BK253.out⟩, ⟨by repeat (first | (with_reducible first | exact HB.out | apply below_alloc | apply pw_below_drewN | apply below_drew1 | refine below_set ?_ GE228.out | refine below_set ?_ GE253.out) | exact HB.out)⟩⟩
            ·
             rw [if_neg c39] at H
             exact absurd H (by simp)
           ·
            rw [if_neg c38] at H
            have c38b0 : decide (x10_2 < (t249.length : Int)) = false := decide_eq_false c38
            clear c38
            obtain rfl := Option.some.inj H
            obtain ⟨Ao53, co53, eo53⟩ := Kd.R_slice HO_8.out
            subst eo53
            go_wp2
            go_ret
            exact ⟨by first | rfl | (simp [errW_none, errW_some] <;> rfl) | (simp [*, errW_none, errW_some] <;> rfl), by repeat (first | (with_reducible first | exact HB.out | apply below_alloc | apply pw_below_drewN | apply below_drew1 | refine below_set ?_ GE228.out | refine below_set ?_ GE253.out) | exact HB.out)⟩
     ·
      rw [if_neg c11] at H
      exact absurd H (by simp)
    ·
     rw [if_neg c10] at H
     exact absurd H (by simp)
   ·
    rw [if_neg c9] at H
    have c9b0 : (t233 == 0) = false := beq_eq_false_iff_ne.mpr c9
    have c9b1 : (t233 != 0) = true := bne_iff_ne.mpr c9
    replace H := Option.bind_eq_some_iff.mp H
    obtain ⟨t234, A540, H⟩ := H
    replace H : (some (!t234)) = some r := H
    have A54 := Aside0.mk A540
    clear A540
    obtain rfl := Option.some.inj H
    go_enter Tryd.func6, Tryd.ntmps6
    go_wp2_with (first | ((with_reducible refine gate_dst (N := 2) rfl ?_); (try (refine gate_guard (by rfl) ?_; dsimp only)); refine box_event ?hg (N := 2) ?hd (cs := #[.int .i64 a0_0, .int .i64 a0_1, .int .i64 a0_2, .int .i64 a0_3, .int .i64 a0_4]) (t := 23) ?hr ?_; (case hd => rfl); (case hg => rfl); (case hr => first | (go_simp; done) | (go_simp; rfl)); intro gb228 hg w55 hbox hb; have n0_ := Aside0.mk (below_step (by repeat (first | (with_reducible first | exact HB.out | apply below_alloc | apply pw_below_drewN | apply below_drew1) | exact HB.out)) hb); have n1_ := Aside0.mk (hbox); have n2_ := Aside0.mk ((by rw [hg]; exact (below_size (by repeat (first | (with_reducible first | exact HB.out | apply below_alloc | apply pw_below_drewN | apply below_drew1) | exact HB.out))) : w.heap.size ≤ gb228)); have n3_ := Aside0.mk ((by rw [hg]; exact (below_size (by repeat (first | (with_reducible first | exact HB.out | apply below_alloc | apply pw_below_drewN | apply below_drew1) | exact HB.out))) : w.heap.size ≤ gb228)); clear HB; have HB := n0_; have BK228 := n1_; have GW228 := n2_; have GE228 := n3_; clear n0_ n1_ n2_ n3_; clear hb hbox hg) | ((with_reducible refine gate_callee (f := 9) rfl ?_); refine goesL_ (some 11) rfl rfl Tryd.func9 (by kernel_rfl) rfl #[] rfl (by (try simp only [List.map_toArray, List.map_cons, List.map_nil]); first | done | rfl | (simp only [List.length_drop, List.length_take]; rfl)) ?_; (with_reducible refine (ringroadlaw26_awake.calls k _ ?sideN A3.out).mono ?_); (case sideN => exact needs_now HN (by repeat (first | (with_reducible first | exact HB.out | apply below_alloc | apply pw_below_drewN | apply below_drew1 | refine below_set ?_ GE228.out) | exact HB.out))); rintro e w56 ⟨rfl, hb⟩; refine ⟨_, rfl, ?_⟩; have n0_ := Aside0.mk (blk_below (g := gb228) (o := .cells #[.int .i64 a0_0, .int .i64 a0_1, .int .i64 a0_2, .int .i64 a0_3, .int .i64 a0_4] 23 (0, 0)) (by (with_reducible repeat (first | refine blk_drewN ?_ _ | refine blk_drew ?_ | refine blk_alloc ?_ _)); exact BK228.out) hb); have n1_ := Aside0.mk (below_step (by repeat (first | (with_reducible first | exact HB.out | apply below_alloc | apply pw_below_drewN | apply below_drew1 | refine below_set ?_ GE228.out) | exact HB.out)) hb); clear BK228; clear HB; have BK228 := n0_; have HB := n1_; clear n0_ n1_; (try clear hb); (try clear hb2); (try clear hk); (try clear hi); have hcz57_0 : w56.cell? ⟨gb228, 0, none⟩ = some (.int .i64 a0_0) := (blk_cell BK228.out 0).trans rfl; have hcz57_1 : w56.cell? ⟨gb228, 1, none⟩ = some (.int .i64 a0_1) := (blk_cell BK228.out 1).trans rfl; have hcz57_2 : w56.cell? ⟨gb228, 2, none⟩ = some (.int .i64 a0_2) := (blk_cell BK228.out 2).trans rfl; have hcz57_3 : w56.cell? ⟨gb228, 3, none⟩ = some (.int .i64 a0_3) := (blk_cell BK228.out 3).trans rfl; have hcz57_4 : w56.cell? ⟨gb228, 4, none⟩ = some (.int .i64 a0_4) := (blk_cell BK228.out 4).trans rfl; have hfz57_0 := blk_frozen BK228.out 0; have hfz57_1 := blk_frozen BK228.out 1; have hfz57_2 := blk_frozen BK228.out 2; have hfz57_3 := blk_frozen BK228.out 3; have hfz57_4 := blk_frozen BK228.out 4) | ((with_reducible refine gate_callee (f := 14) rfl ?_); refine goesL_ (some 18) rfl rfl Tryd.func14 (by kernel_rfl) rfl #[.agg #[.int .i64 a0_0, .int .i64 a0_1, .int .i64 a0_2, .int .i64 a0_3, .int .i64 a0_4], .slice none 0 0] rfl (by (try simp only [List.map_toArray, List.map_cons, List.map_nil]); first | done | rfl | (simp only [List.length_drop, List.length_take]; rfl)) ?_; (refine (wire_Encode.calls k a0_0 a0_1 a0_2 a0_3 a0_4 _ _ ([] : List (S30)) t230 t233 _ ?side1 ?side2 ?sideN A8.out).mono ?_); (case sideN => exact needs_now HN (by repeat (first | (with_reducible first | exact HB.out | apply below_alloc | apply pw_below_drewN | apply below_drew1 | refine below_set ?_ GE228.out) | exact HB.out))); (case side1 => exact Kd.C_nil _ _); (case side2 => exact Nat.le_refl _); rintro e w58 ⟨v231, rfl, ho0, hb⟩; refine ⟨_, rfl, ?_⟩; have n0_ := Aside0.mk (Kd.R_lower ho0 (below_size (by repeat (first | (with_reducible first | exact HB.out | apply below_alloc | apply pw_below_drewN | apply below_drew1 | refine below_set ?_ GE228.out) | exact HB.out)))); have n1_ := Aside0.mk (blk_below (g := gb228) (o := .cells #[.int .i64 a0_0, .int .i64 a0_1, .int .i64 a0_2, .int .i64 a0_3, .int .i64 a0_4] 23 (0, 0)) (by (with_reducible repeat (first | refine blk_drewN ?_ _ | refine blk_drew ?_ | refine blk_alloc ?_ _)); exact BK228.out) hb); have n2_ := Aside0.mk (below_step (by repeat (first | (with_reducible first | exact HB.out | apply below_alloc | apply pw_below_drewN | apply below_drew1 | refine below_set ?_ GE228.out) | exact HB.out)) hb); clear BK228; clear HB; have HO232 := n0_; have BK228 := n1_; have HB := n2_; clear n0_ n1_ n2_; (try clear hb); (try clear hb2); (try clear hk); (try clear hi); (try clear ho0); have hcz59_0 : w58.cell? ⟨gb228, 0, none⟩ = some (.int .i64 a0_0) := (blk_cell BK228.out 0).trans rfl; have hcz59_1 : w58.cell? ⟨gb228, 1, none⟩ = some (.int .i64 a0_1) := (blk_cell BK228.out 1).trans rfl; have hcz59_2 : w58.cell? ⟨gb228, 2, none⟩ = some (.int .i64 a0_2) := (blk_cell BK228.out 2).trans rfl; have hcz59_3 : w58.cell? ⟨gb228, 3, none⟩ = some (.int .i64 a0_3) := (blk_cell BK228.out 3).trans rfl; have hcz59_4 : w58.cell? ⟨gb228, 4, none⟩ = some (.int .i64 a0_4) := (blk_cell BK228.out 4).trans rfl; have hfz59_0 := blk_frozen BK228.out 0; have hfz59_1 := blk_frozen BK228.out 1; have hfz59_2 := blk_frozen BK228.out 2; have hfz59_3 := blk_frozen BK228.out 3; have hfz59_4 := blk_frozen BK228.out 4) | ((with_reducible refine gate_callee (f := 11) rfl ?_); refine goesL_ (some 24) rfl rfl Tryd.func11 (by kernel_rfl) rfl #[.agg #[.int .i64 a0_0, .int .i64 a0_1, .int .i64 a0_2, .int .i64 a0_3, .int .i64 a0_4]] rfl (by (try simp only [List.map_toArray, List.map_cons, List.map_nil]); first | done | rfl | (simp only [List.length_drop, List.length_take]; rfl)) ?_; (with_reducible refine (wire_Setup.calls a0_0 a0_1 a0_2 a0_3 a0_4 t234 _ A54.out).mono ?_); rintro e w60 ⟨rfl, hb⟩; refine ⟨_, rfl, ?_⟩; have n0_ := Aside0.mk (Kd.R_below (by (with_reducible repeat (first | apply Kd.R_alloc | apply Kd.R_drewN | apply Kd.R_drew)); exact HO232.out) hb); have n1_ := Aside0.mk (blk_below (g := gb228) (o := .cells #[.int .i64 a0_0, .int .i64 a0_1, .int .i64 a0_2, .int .i64 a0_3, .int .i64 a0_4] 23 (0, 0)) (by (with_reducible repeat (first | refine blk_drewN ?_ _ | refine blk_drew ?_ | refine blk_alloc ?_ _)); exact BK228.out) hb); have n2_ := Aside0.mk (below_step (by repeat (first | (with_reducible first | exact HB.out | apply below_alloc | apply pw_below_drewN | apply below_drew1 | refine below_set ?_ GE228.out) | exact HB.out)) hb); clear HO232; clear BK228; clear HB; have HO232 := n0_; have BK228 := n1_; have HB := n2_; clear n0_ n1_ n2_; (try clear hb); (try clear hb2); (try clear hk); (try clear hi)))
    go_ret
    exact ⟨by first | rfl | (simp [errW_none, errW_some] <;> rfl) | (simp [*, errW_none, errW_some] <;> rfl), by repeat (first | (with_reducible first | exact HB.out | apply below_alloc | apply pw_below_drewN | apply below_drew1 | refine below_set ?_ GE228.out) | exact HB.out)⟩
 ·
  rw [if_neg c4] at H; cases (Option.some.inj H).trans hr
end Go.Proofs.YteapmebmgaggcaaDoor.PW
