import Derived.Test.YteapmebmgaggcaaDoorVd
namespace Go.Proofs.YteapmebmgaggcaaDoor.PW
open Go.RowKit Go.Proofs.YteapmebmgaggcaaDoorW.PrintWords Go.Proofs.YteapmebmgaggcaaDoorW.PrintLast Go.Proofs.YteapmebmgaggcaaDoorW.PrintMore
attribute [local go_sem] max2_int min2_int max_two min_two max_three min_three max_four min_four   -- for this text's walks alone
set_option linter.unusedVariables false
set_option linter.unusedSimpArgs false

/-! ### ringroadref26_Decode: function 18 -/
mutual
def ringroadref26_Decode.j0 : Nat → List Int → Bool → Int → Int → Int → Int → Int → Option (Int × Int × Int × Int × Int × (List (S30)) × Int)
 | 0, _, _, _, _, _, _, _ => none
 | k + 1, x0, x59, x245000, x245001, x245002, x245003, x245004 => if x59 = true then (some (0, 0, 0, 0, 0, ([] : List (S30)), 8)) else (ringroadref26_Decode.l0 k x0 ([] : List (S30)) 8 x245000 x245001 x245002 x245003 x245004)
def ringroadref26_Decode.l0 : Nat → List Int → List (S30) → Int → Int → Int → Int → Int → Int → Option (Int × Int × Int × Int × Int × (List (S30)) × Int)
 | 0, _, _, _, _, _, _, _, _ => none
 | k + 1, x0, x6, x7, x245000, x245001, x245002, x245003, x245004 => if x7 < (x0.length : Int) then (if (wrap64 (x7 + 12)) ≤ (x0.length : Int) then (if 0 ≤ x7 then (if 0 ≤ (wrap64 (x7 + 1)) then (if (wrap64 (x7 + 1)) < (x0.length : Int) then (if 0 ≤ (wrap64 (x7 + 2)) then (if (wrap64 (x7 + 2)) < (x0.length : Int) then (if 0 ≤ (wrap64 (x7 + 3)) then (if (wrap64 (x7 + 3)) < (x0.length : Int) then (if 0 ≤ (wrap64 (x7 + 4)) then (if (wrap64 (x7 + 4)) ≤ (wrap64 (x7 + 12)) then ((ringroadref02_Number.f k ((x0.take ((wrap64 (x7 + 12)) : Int).toNat).drop ((wrap64 (x7 + 4)) : Int).toNat)).bind fun t255 => ((ringroadref26_May.f (wrap64 (rd x0 x7)) (wrap64 (rd x0 (wrap64 (x7 + 1)))) (wrap64 (rd x0 (wrap64 (x7 + 2)))) (wrap64 (rd x0 (wrap64 (x7 + 3)))) t255).bind fun t257 => (if t257 = true then (if x6.length < 3518437208883 then (ringroadref26_Decode.l0 k x0 (x6 ++ [(⟨wrap64 (rd x0 x7), wrap64 (rd x0 (wrap64 (x7 + 1))), wrap64 (rd x0 (wrap64 (x7 + 2))), wrap64 (rd x0 (wrap64 (x7 + 3))), t255⟩ : S30)]) (wrap64 (x7 + 12)) x245000 x245001 x245002 x245003 x245004) else (none)) else (if x6.length < 3518437208883 then (ringroadref26_Decode.l0 k x0 (x6 ++ [(⟨0, 0, 0, 0, 0⟩ : S30)]) (wrap64 (x7 + 12)) x245000 x245001 x245002 x245003 x245004) else (none))))) else (none)) else (none)) else (none)) else (none)) else (none)) else (none)) else (none)) else (none)) else (none)) else (if x6.length < 3518437208883 then (ringroadref26_Decode.l0 k x0 (x6 ++ [(⟨0, 0, 0, 0, 0⟩ : S30)]) (wrap64 (x7 + 12)) x245000 x245001 x245002 x245003 x245004) else (none))) else (some (x245000, x245001, x245002, x245003, x245004, x6, 0))
end
def ringroadref26_Decode.f (k : Nat) (l0 : List Int) : Option (Int × Int × Int × Int × Int × (List (S30)) × Int) := if (l0.length : Int) > 4096 then (some (0, 0, 0, 0, 0, ([] : List (S30)), 9)) else (if (l0.length : Int) < 8 then (some (0, 0, 0, 0, 0, ([] : List (S30)), 7)) else (if 3 < (l0.length : Int) then (if 4 < (l0.length : Int) then (if 5 < (l0.length : Int) then (if 6 < (l0.length : Int) then (if 7 < (l0.length : Int) then (if 0 < (l0.length : Int) then (if (rd l0 0) = 82 then (if 1 < (l0.length : Int) then (if (rd l0 1) = 82 then (if 2 < (l0.length : Int) then (if (rd l0 2) = 1 then ((ringroadref26_Setup.f (wrap64 (rd l0 3)) (wrap64 (rd l0 4)) (wrap64 (rd l0 5)) (wrap64 (rd l0 6)) (wrap64 (rd l0 7))).bind fun t248 => (ringroadref26_Decode.j0 k l0 (!t248) (wrap64 (rd l0 3)) (wrap64 (rd l0 4)) (wrap64 (rd l0 5)) (wrap64 (rd l0 6)) (wrap64 (rd l0 7)))) else (ringroadref26_Decode.j0 k l0 true (wrap64 (rd l0 3)) (wrap64 (rd l0 4)) (wrap64 (rd l0 5)) (wrap64 (rd l0 6)) (wrap64 (rd l0 7)))) else (none)) else (ringroadref26_Decode.j0 k l0 true (wrap64 (rd l0 3)) (wrap64 (rd l0 4)) (wrap64 (rd l0 5)) (wrap64 (rd l0 6)) (wrap64 (rd l0 7)))) else (none)) else (ringroadref26_Decode.j0 k l0 true (wrap64 (rd l0 3)) (wrap64 (rd l0 4)) (wrap64 (rd l0 5)) (wrap64 (rd l0 6)) (wrap64 (rd l0 7)))) else (none)) else (none)) else (none)) else (none)) else (none)) else (none)))
theorem ringroadref26_Decode.mono_l : ∀ k, (∀ y0 y1 y2 y3 y4 y5 y6, LeO (ringroadref26_Decode.j0 k y0 y1 y2 y3 y4 y5 y6) (ringroadref26_Decode.j0 (k + 1) y0 y1 y2 y3 y4 y5 y6)) ∧ (∀ y0 y1 y2 y3 y4 y5 y6 y7, LeO (ringroadref26_Decode.l0 k y0 y1 y2 y3 y4 y5 y6 y7) (ringroadref26_Decode.l0 (k + 1) y0 y1 y2 y3 y4 y5 y6 y7))
 | 0 => ⟨fun _ _ _ _ _ _ _ r h => by simp [ringroadref26_Decode.j0] at h, fun _ _ _ _ _ _ _ _ r h => by simp [ringroadref26_Decode.l0] at h⟩
 | k + 1 => by
  obtain ⟨ih0, ih1⟩ := ringroadref26_Decode.mono_l k
  refine ⟨?_, ?_⟩
  ·
   intro y0 y1 y2 y3 y4 y5 y6
   unfold ringroadref26_Decode.j0
   repeat' first
   | (with_reducible exact ih0 _ _ _ _ _ _ _)
   | (with_reducible exact ih1 _ _ _ _ _ _ _ _)
   | (with_reducible exact ringroadref02_Number.mono _ _)
   | (with_reducible exact LeO.refl _)
   | (with_reducible exact LeO.none _)
   | (with_reducible refine LeO.ite ?_ ?_)
   | (with_reducible refine LeO.bind ?_ (fun _ => ?_))
   | exact ih0 _ _ _ _ _ _ _
   | exact ih1 _ _ _ _ _ _ _ _
   | exact ringroadref02_Number.mono _ _
   | exact LeO.none _
   | refine LeO.ite ?_ ?_
   | refine LeO.bind ?_ (fun _ => ?_)
  ·
   intro y0 y1 y2 y3 y4 y5 y6 y7
   unfold ringroadref26_Decode.l0
   repeat' first
   | (with_reducible exact ih0 _ _ _ _ _ _ _)
   | (with_reducible exact ih1 _ _ _ _ _ _ _ _)
   | (with_reducible exact ringroadref02_Number.mono _ _)
   | (with_reducible exact LeO.refl _)
   | (with_reducible exact LeO.none _)
   | (with_reducible refine LeO.ite ?_ ?_)
   | (with_reducible refine LeO.bind ?_ (fun _ => ?_))
   | exact ih0 _ _ _ _ _ _ _
   | exact ih1 _ _ _ _ _ _ _ _
   | exact ringroadref02_Number.mono _ _
   | exact LeO.none _
   | refine LeO.ite ?_ ?_
   | refine LeO.bind ?_ (fun _ => ?_)
theorem ringroadref26_Decode.mono : ∀ a0 k, LeO (ringroadref26_Decode.f k a0) (ringroadref26_Decode.f (k + 1) a0) := by
 intro a0 k
 obtain ⟨ih0, ih1⟩ := ringroadref26_Decode.mono_l k
 unfold ringroadref26_Decode.f
 repeat' first
   | (with_reducible exact ih0 _ _ _ _ _ _ _)
   | (with_reducible exact ih1 _ _ _ _ _ _ _ _)
   | (with_reducible exact ringroadref02_Number.mono _ _)
   | (with_reducible exact LeO.refl _)
   | (with_reducible exact LeO.none _)
   | (with_reducible refine LeO.ite ?_ ?_)
   | (with_reducible refine LeO.bind ?_ (fun _ => ?_))
   | exact ih0 _ _ _ _ _ _ _
   | exact ih1 _ _ _ _ _ _ _ _
   | exact ringroadref02_Number.mono _ _
   | exact LeO.none _
   | refine LeO.ite ?_ ?_
   | refine LeO.bind ?_ (fun _ => ?_)
def ringroadref26_Decode.T5 : Bool × List (List Nat × List Nat) := (true, [([], []), ([0], [0]), ([1], [1]), ([2], [2]), ([], []), ([4], [4]), ([5], [5]), ([6], [6]), ([], []), ([8], [8]), ([9], [9]), ([10], [10]), ([], []), ([12], [12]), ([13], [13]), ([14], [14]), ([], []), ([16], [16]), ([17], [17]), ([18], [18]), ([3, 7, 11, 15, 19], [3, 7, 11, 15, 19]), ([], []), ([21, 20, 0, 1, 2, 3, 4, 5, 6, 7, 8, 9, 10, 11, 12, 13, 14, 15, 16, 17, 18, 19, 20, 21], [20, 21])])
def ringroadref26_Decode.B5 : List Nat := [0, 1, 3, 7, 0, 16, 48, 112, 0, 256, 768, 1792, 0, 4096, 12288, 28672, 0, 65536, 196608, 458752, 1048575, 0, 4194303]
theorem ringroadref26_Decode.tab5 : rtab .any (opsOf Tryd.f18 5) = ringroadref26_Decode.T5 := by kernel_rfl
theorem ringroadref26_Decode.bits5 : waitsOk ringroadref26_Decode.T5.2 ringroadref26_Decode.B5 = true := by kernel_rfl
def ringroadref26_Decode.T14 : Bool × List (List Nat × List Nat) := (true, [([], []), ([], []), ([0, 1], [0, 1]), ([2], [2]), ([3], [3]), ([], []), ([], []), ([6], [6]), ([5, 7], [5, 7]), ([8], [8]), ([9], [9]), ([], []), ([], []), ([12], [12]), ([11, 13], [11, 13]), ([14], [14]), ([15], [15]), ([], []), ([], []), ([18], [18]), ([17, 19], [17, 19]), ([20], [20]), ([21], [21]), ([], []), ([], []), ([24], [24]), ([], []), ([26], [26]), ([23, 25, 27], [23, 25, 27]), ([28], [28]), ([4, 10, 16, 22, 29], [4, 10, 16, 22, 29]), ([], []), ([31, 30, 29, 0, 1, 2, 3, 4, 5, 6, 7, 8, 9, 10, 11, 12, 13, 14, 15, 16, 17, 18, 19, 20, 21, 22, 23, 24, 25, 26, 27, 28, 29, 30, 31], [30, 31])])
def ringroadref26_Decode.B14 : List Nat := [0, 0, 3, 7, 15, 0, 0, 64, 224, 480, 992, 0, 0, 4096, 14336, 30720, 63488, 0, 0, 262144, 917504, 1966080, 4063232, 0, 0, 16777216, 0, 67108864, 260046848, 528482304, 1073741823, 0, 4294967295]
theorem ringroadref26_Decode.tab14 : rtab .any (opsOf Tryd.f18 14) = ringroadref26_Decode.T14 := by kernel_rfl
theorem ringroadref26_Decode.bits14 : waitsOk ringroadref26_Decode.T14.2 ringroadref26_Decode.B14 = true := by kernel_rfl
set_option maxHeartbeats 8000000 in
set_option maxRecDepth 100000 in
theorem ringroadref26_Decode.calls (k : Nat) (A0 : Option Addr) (c0 : Nat) (l0 : List Int) (r1 : Int) (r2 : Int) (r3 : Int) (r4 : Int) (r5 : Int) (r6 : List (S30)) (r7 : Int) (w : World) (hr0 : Kd.C (Kd.int .u8) w A0 l0.length l0) (hc0 : l0.length ≤ c0) (h : ringroadref26_Decode.f k l0 = some (r1, r2, r3, r4, r5, r6, r7)) :
  Calls Tryd.prog 18 #[.slice A0 l0.length c0] w fun e w' => ∃ v5_ : Value, e = .returned (.tuple #[.agg #[.int .i64 r1, .int .i64 r2, .int .i64 r3, .int .i64 r4, .int .i64 r5], v5_, .int .i64 r7]) ∧ Kd.R k30 30 w' w.heap.size (fun _ => True) v5_ r6 ∧ Below w.heap.size w w' := by
 have hu23 := Tryd.underlying23
 have hu30 := Tryd.underlying30
 have HR0 := Aside0.mk hr0
 have HC0 := Aside0.mk hc0
 clear hr0 hc0
 have HB := Aside0.mk (Below.refl w.heap.size w)
 have H : (if (l0.length : Int) > 4096 then (some (0, 0, 0, 0, 0, ([] : List (S30)), 9)) else (if (l0.length : Int) < 8 then (some (0, 0, 0, 0, 0, ([] : List (S30)), 7)) else (if 3 < (l0.length : Int) then (if 4 < (l0.length : Int) then (if 5 < (l0.length : Int) then (if 6 < (l0.length : Int) then (if 7 < (l0.length : Int) then (if 0 < (l0.length : Int) then (if (rd l0 0) = 82 then (if 1 < (l0.length : Int) then (if (rd l0 1) = 82 then (if 2 < (l0.length : Int) then (if (rd l0 2) = 1 then ((ringroadref26_Setup.f (wrap64 (rd l0 3)) (wrap64 (rd l0 4)) (wrap64 (rd l0 5)) (wrap64 (rd l0 6)) (wrap64 (rd l0 7))).bind fun t248 => (ringroadref26_Decode.j0 k l0 (!t248) (wrap64 (rd l0 3)) (wrap64 (rd l0 4)) (wrap64 (rd l0 5)) (wrap64 (rd l0 6)) (wrap64 (rd l0 7)))) else (ringroadref26_Decode.j0 k l0 true (wrap64 (rd l0 3)) (wrap64 (rd l0 4)) (wrap64 (rd l0 5)) (wrap64 (rd l0 6)) (wrap64 (rd l0 7)))) else (none)) else (ringroadref26_Decode.j0 k l0 true (wrap64 (rd l0 3)) (wrap64 (rd l0 4)) (wrap64 (rd l0 5)) (wrap64 (rd l0 6)) (wrap64 (rd l0 7)))) else (none)) else (ringroadref26_Decode.j0 k l0 true (wrap64 (rd l0 3)) (wrap64 (rd l0 4)) (wrap64 (rd l0 5)) (wrap64 (rd l0 6)) (wrap64 (rd l0 7)))) else (none)) else (none)) else (none)) else (none)) else (none)) else (none)))) = some (r1, r2, r3, r4, r5, r6, r7) := h
 clear h
 by_cases c2 : (l0.length : Int) > 4096
 ·
  rw [if_pos c2] at H
  have c2b0 : decide (4096 < (l0.length : Int)) = true := decide_eq_true c2
  have c2b1 : decide (4096 < l0.length) = true := decide_eq_true (by omega)
  clear c2
  simp only [Option.some.injEq, Prod.mk.injEq] at H
  obtain ⟨rfl, rfl, rfl, rfl, rfl, rfl, rfl⟩ := H
  go_enter Tryd.func18, Tryd.ntmps18
  go_wp2_with (first | ((with_reducible refine gate_dst (N := 2) rfl ?_); refine box_event ?hg (N := 2) ?hd (cs := #[.int .i64 0, .int .i64 0, .int .i64 0, .int .i64 0, .int .i64 0]) (t := 23) ?hr ?_; (case hd => rfl); (case hg => rfl); (case hr => first | (go_simp; done) | (go_simp; rfl)); intro gb238 hg w3 hbox hb; have n0_ := Aside0.mk (below_step (by repeat (first | (with_reducible first | exact HB.out | apply below_alloc | apply pw_below_drewN | apply below_drew1) | exact HB.out)) hb); have n1_ := Aside0.mk (hbox); have n2_ := Aside0.mk ((by rw [hg]; exact (below_size (by repeat (first | (with_reducible first | exact HB.out | apply below_alloc | apply pw_below_drewN | apply below_drew1) | exact HB.out))) : w.heap.size ≤ gb238)); have n3_ := Aside0.mk ((by rw [hg]; exact (below_size (by repeat (first | (with_reducible first | exact HB.out | apply below_alloc | apply pw_below_drewN | apply below_drew1) | exact HB.out))) : w.heap.size ≤ gb238)); clear HB; have HB := n0_; have BK238 := n1_; have GW238 := n2_; have GE238 := n3_; clear n0_ n1_ n2_ n3_; clear hb hbox hg; have hcz4_0 : w3.cell? ⟨gb238, 0, none⟩ = some (.int .i64 0) := (blk_cell BK238.out 0).trans rfl; have hcz4_1 : w3.cell? ⟨gb238, 1, none⟩ = some (.int .i64 0) := (blk_cell BK238.out 1).trans rfl; have hcz4_2 : w3.cell? ⟨gb238, 2, none⟩ = some (.int .i64 0) := (blk_cell BK238.out 2).trans rfl; have hcz4_3 : w3.cell? ⟨gb238, 3, none⟩ = some (.int .i64 0) := (blk_cell BK238.out 3).trans rfl; have hcz4_4 : w3.cell? ⟨gb238, 4, none⟩ = some (.int .i64 0) := (blk_cell BK238.out 4).trans rfl; have hfz4_0 := blk_frozen BK238.out 0; have hfz4_1 := blk_frozen BK238.out 1; have hfz4_2 := blk_frozen BK238.out 2; have hfz4_3 := blk_frozen BK238.out 3; have hfz4_4 := blk_frozen BK238.out 4))
  refine bodyPost_ret (results_ctt rfl _ _ gb238 23 #[.int .i64 0, .int .i64 0, .int .i64 0, .int .i64 0, .int .i64 0] (0, 0) _ rfl (by (with_reducible repeat (first | refine blk_drewN ?_ _ | refine blk_drew ?_ | refine blk_alloc ?_ _)); refine blk_put (cs := #[.int .i64 0, .int .i64 0, .int .i64 0, .int .i64 0, .int .i64 0]) ?_ 4 _ rfl; (with_reducible repeat (first | refine blk_drewN ?_ _ | refine blk_drew ?_ | refine blk_alloc ?_ _)); refine blk_put (cs := #[.int .i64 0, .int .i64 0, .int .i64 0, .int .i64 0, .int .i64 0]) ?_ 3 _ rfl; (with_reducible repeat (first | refine blk_drewN ?_ _ | refine blk_drew ?_ | refine blk_alloc ?_ _)); refine blk_put (cs := #[.int .i64 0, .int .i64 0, .int .i64 0, .int .i64 0, .int .i64 0]) ?_ 2 _ rfl; (with_reducible repeat (first | refine blk_drewN ?_ _ | refine blk_drew ?_ | refine blk_alloc ?_ _)); refine blk_put (cs := #[.int .i64 0, .int .i64 0, .int .i64 0, .int .i64 0, .int .i64 0]) ?_ 1 _ rfl; (with_reducible repeat (first | refine blk_drewN ?_ _ | refine blk_drew ?_ | refine blk_alloc ?_ _)); refine blk_put (cs := #[.int .i64 0, .int .i64 0, .int .i64 0, .int .i64 0, .int .i64 0]) ?_ 0 _ rfl; (with_reducible repeat (first | refine blk_drewN ?_ _ | refine blk_drew ?_ | refine blk_alloc ?_ _)); exact BK238.out) Tryd.underlying23 rfl (by kernel_rfl)) rfl ?_
  exact ⟨_, by first | rfl | (simp [errW_none, errW_some] <;> rfl) | (simp [*, errW_none, errW_some] <;> rfl), by first | exact Kd.R_nil _ _ _ _ _ | exact Kd.N_nil _ _ _ _ _ | exact Kd.V_nil _ _ _ _ _ | exact Kd.Q_nil _ _ _ _ _ | exact Kd.S_nil _ _ _ _ _, by repeat (first | (with_reducible first | exact HB.out | apply below_alloc | apply pw_below_drewN | apply below_drew1 | refine below_set ?_ GE238.out) | exact HB.out)⟩
 ·
  rw [if_neg c2] at H
  have c2b0 : decide (4096 < (l0.length : Int)) = false := decide_eq_false c2
  have c2b1 : decide (4096 < l0.length) = false := decide_eq_false (by omega)
  clear c2
  by_cases c5 : (l0.length : Int) < 8
  ·
   rw [if_pos c5] at H
   have c5b0 : decide ((l0.length : Int) < 8) = true := decide_eq_true c5
   have c5b1 : decide (l0.length < 8) = true := decide_eq_true (by omega)
   clear c5
   simp only [Option.some.injEq, Prod.mk.injEq] at H
   obtain ⟨rfl, rfl, rfl, rfl, rfl, rfl, rfl⟩ := H
   go_enter Tryd.func18, Tryd.ntmps18
   go_wp2_with (first | ((with_reducible refine gate_dst (N := 2) rfl ?_); refine box_event ?hg (N := 2) ?hd (cs := #[.int .i64 0, .int .i64 0, .int .i64 0, .int .i64 0, .int .i64 0]) (t := 23) ?hr ?_; (case hd => rfl); (case hg => rfl); (case hr => first | (go_simp; done) | (go_simp; rfl)); intro gb238 hg w6 hbox hb; have n0_ := Aside0.mk (below_step (by repeat (first | (with_reducible first | exact HB.out | apply below_alloc | apply pw_below_drewN | apply below_drew1) | exact HB.out)) hb); have n1_ := Aside0.mk (hbox); have n2_ := Aside0.mk ((by rw [hg]; exact (below_size (by repeat (first | (with_reducible first | exact HB.out | apply below_alloc | apply pw_below_drewN | apply below_drew1) | exact HB.out))) : w.heap.size ≤ gb238)); have n3_ := Aside0.mk ((by rw [hg]; exact (below_size (by repeat (first | (with_reducible first | exact HB.out | apply below_alloc | apply pw_below_drewN | apply below_drew1) | exact HB.out))) : w.heap.size ≤ gb238)); clear HB; have HB := n0_; have BK238 := n1_; have GW238 := n2_; have GE238 := n3_; clear n0_ n1_ n2_ n3_; clear hb hbox hg; have hcz7_0 : w6.cell? ⟨gb238, 0, none⟩ = some (.int .i64 0) := (blk_cell BK238.out 0).trans rfl; have hcz7_1 : w6.cell? ⟨gb238, 1, none⟩ = some (.int .i64 0) := (blk_cell BK238.out 1).trans rfl; have hcz7_2 : w6.cell? ⟨gb238, 2, none⟩ = some (.int .i64 0) := (blk_cell BK238.out 2).trans rfl; have hcz7_3 : w6.cell? ⟨gb238, 3, none⟩ = some (.int .i64 0) := (blk_cell BK238.out 3).trans rfl; have hcz7_4 : w6.cell? ⟨gb238, 4, none⟩ = some (.int .i64 0) := (blk_cell BK238.out 4).trans rfl; have hfz7_0 := blk_frozen BK238.out 0; have hfz7_1 := blk_frozen BK238.out 1; have hfz7_2 := blk_frozen BK238.out 2; have hfz7_3 := blk_frozen BK238.out 3; have hfz7_4 := blk_frozen BK238.out 4))
   refine bodyPost_ret (results_ctt rfl _ _ gb238 23 #[.int .i64 0, .int .i64 0, .int .i64 0, .int .i64 0, .int .i64 0] (0, 0) _ rfl (by (with_reducible repeat (first | refine blk_drewN ?_ _ | refine blk_drew ?_ | refine blk_alloc ?_ _)); refine blk_put (cs := #[.int .i64 0, .int .i64 0, .int .i64 0, .int .i64 0, .int .i64 0]) ?_ 4 _ rfl; (with_reducible repeat (first | refine blk_drewN ?_ _ | refine blk_drew ?_ | refine blk_alloc ?_ _)); refine blk_put (cs := #[.int .i64 0, .int .i64 0, .int .i64 0, .int .i64 0, .int .i64 0]) ?_ 3 _ rfl; (with_reducible repeat (first | refine blk_drewN ?_ _ | refine blk_drew ?_ | refine blk_alloc ?_ _)); refine blk_put (cs := #[.int .i64 0, .int .i64 0, .int .i64 0, .int .i64 0, .int .i64 0]) ?_ 2 _ rfl; (with_reducible repeat (first | refine blk_drewN ?_ _ | refine blk_drew ?_ | refine blk_alloc ?_ _)); refine blk_put (cs := #[.int .i64 0, .int .i64 0, .int .i64 0, .int .i64 0, .int .i64 0]) ?_ 1 _ rfl; (with_reducible repeat (first | refine blk_drewN ?_ _ | refine blk_drew ?_ | refine blk_alloc ?_ _)); refine blk_put (cs := #[.int .i64 0, .int .i64 0, .int .i64 0, .int .i64 0, .int .i64 0]) ?_ 0 _ rfl; (with_reducible repeat (first | refine blk_drewN ?_ _ | refine blk_drew ?_ | refine blk_alloc ?_ _)); exact BK238.out) Tryd.underlying23 rfl (by kernel_rfl)) rfl ?_
   exact ⟨_, by first | rfl | (simp [errW_none, errW_some] <;> rfl) | (simp [*, errW_none, errW_some] <;> rfl), by first | exact Kd.R_nil _ _ _ _ _ | exact Kd.N_nil _ _ _ _ _ | exact Kd.V_nil _ _ _ _ _ | exact Kd.Q_nil _ _ _ _ _ | exact Kd.S_nil _ _ _ _ _, by repeat (first | (with_reducible first | exact HB.out | apply below_alloc | apply pw_below_drewN | apply below_drew1 | refine below_set ?_ GE238.out) | exact HB.out)⟩
  ·
   rw [if_neg c5] at H
   have c5b0 : decide ((l0.length : Int) < 8) = false := decide_eq_false c5
   have c5b1 : decide (l0.length < 8) = false := decide_eq_false (by omega)
   clear c5
   by_cases c8 : 3 < (l0.length : Int)
   ·
    rw [if_pos c8] at H
    have c8b0 : decide (3 < (l0.length : Int)) = true := decide_eq_true c8
    have c8b1 : decide (3 < l0.length) = true := decide_eq_true (by omega)
    clear c8
    by_cases c9 : 4 < (l0.length : Int)
    ·
     rw [if_pos c9] at H
     have c9b0 : decide (4 < (l0.length : Int)) = true := decide_eq_true c9
     have c9b1 : decide (4 < l0.length) = true := decide_eq_true (by omega)
     clear c9
     by_cases c10 : 5 < (l0.length : Int)
     ·
      rw [if_pos c10] at H
      have c10b0 : decide (5 < (l0.length : Int)) = true := decide_eq_true c10
      have c10b1 : decide (5 < l0.length) = true := decide_eq_true (by omega)
      clear c10
      by_cases c11 : 6 < (l0.length : Int)
      ·
       rw [if_pos c11] at H
       have c11b0 : decide (6 < (l0.length : Int)) = true := decide_eq_true c11
       have c11b1 : decide (6 < l0.length) = true := decide_eq_true (by omega)
       clear c11
       by_cases c12 : 7 < (l0.length : Int)
       ·
        rw [if_pos c12] at H
        have c12b0 : decide (7 < (l0.length : Int)) = true := decide_eq_true c12
        have c12b1 : decide (7 < l0.length) = true := decide_eq_true (by omega)
        clear c12
        have HC13 := Aside0.mk H
        clear H
        go_enter Tryd.func18, Tryd.ntmps18
        try go_wp2_with (first | ((with_reducible refine gate_dst (N := 2) rfl ?_); refine box_event ?hg (N := 2) ?hd (cs := #[.int .i64 0, .int .i64 0, .int .i64 0, .int .i64 0, .int .i64 0]) (t := 23) ?hr ?_; (case hd => rfl); (case hg => rfl); (case hr => first | (go_simp; done) | (go_simp; rfl)); intro gb238 hg w14 hbox hb; have n0_ := Aside0.mk (below_step (by repeat (first | (with_reducible first | exact HB.out | apply below_alloc | apply pw_below_drewN | apply below_drew1) | exact HB.out)) hb); have n1_ := Aside0.mk (hbox); have n2_ := Aside0.mk ((by rw [hg]; exact (below_size (by repeat (first | (with_reducible first | exact HB.out | apply below_alloc | apply pw_below_drewN | apply below_drew1) | exact HB.out))) : w.heap.size ≤ gb238)); have n3_ := Aside0.mk ((by rw [hg]; exact (below_size (by repeat (first | (with_reducible first | exact HB.out | apply below_alloc | apply pw_below_drewN | apply below_drew1) | exact HB.out))) : w.heap.size ≤ gb238)); clear HB; have HB := n0_; have BK238 := n1_; have GW238 := n2_; have GE238 := n3_; clear n0_ n1_ n2_ n3_; clear hb hbox hg))
        have n0_ := Aside0.mk (blk_drew BK238.out)
        have n1_ := Aside0.mk (below_drew1 HB.out)
        clear BK238
        clear HB
        have BK238 := n0_
        have HB := n1_
        clear n0_ n1_
        have p239 : 0 ≤ (3 : Int) := (by omega)
        have q239 : 3 < (l0.length : Int) := of_decide_eq_true (by first | (with_reducible assumption) | assumption)
        obtain ⟨ad239, e239, hx239_0⟩ := Kd.at_int HR0.out 3 p239 q239
        have hw239_0 := hx239_0
        (try rw [show ((3 : Int)).toNat = 3 from rfl] at hw239_0)
        (try rw [show 3 * 1 = 3 from rfl] at hw239_0)
        (try simp only [Nat.reduceMul, Nat.reduceEqDiff, Go.Addr.add, ↓reduceIte] at hw239_0)
        cases e239
        (try simp only [show (3 : Int).toNat = 3 from rfl, Nat.reduceMul, Nat.reduceEqDiff, Go.Addr.add, ↓reduceIte] at hx239_0)
        have qi239 : (3 < l0.length) = True := eq_true (by omega)
        (try rw [show ((3 : Int)).toNat = 3 from rfl] at hx239_0)
        replace hx239_0 := (HB.out.cell (World.block_lt_of_cell? w _ hx239_0)).trans hx239_0
        replace p239 := eq_true p239
        replace q239 := eq_true q239
        have p240 : 0 ≤ (4 : Int) := (by omega)
        have q240 : 4 < (l0.length : Int) := of_decide_eq_true (by first | (with_reducible assumption) | assumption)
        obtain ⟨ad240, e240, hx240_0⟩ := Kd.at_int HR0.out 4 p240 q240
        have hw240_0 := hx240_0
        (try rw [show ((4 : Int)).toNat = 4 from rfl] at hw240_0)
        (try rw [show 4 * 1 = 4 from rfl] at hw240_0)
        (try simp only [Nat.reduceMul, Nat.reduceEqDiff, Go.Addr.add, ↓reduceIte] at hw240_0)
        obtain rfl : ad239 = ad240 := (by injection e240)
        (try simp only [show (4 : Int).toNat = 4 from rfl, Nat.reduceMul, Nat.reduceEqDiff, Go.Addr.add, ↓reduceIte] at hx240_0)
        have qi240 : (4 < l0.length) = True := eq_true (by omega)
        (try rw [show ((4 : Int)).toNat = 4 from rfl] at hx240_0)
        replace hx240_0 := (HB.out.cell (World.block_lt_of_cell? w _ hx240_0)).trans hx240_0
        replace p240 := eq_true p240
        replace q240 := eq_true q240
        have p241 : 0 ≤ (5 : Int) := (by omega)
        have q241 : 5 < (l0.length : Int) := of_decide_eq_true (by first | (with_reducible assumption) | assumption)
        obtain ⟨ad241, e241, hx241_0⟩ := Kd.at_int HR0.out 5 p241 q241
        have hw241_0 := hx241_0
        (try rw [show ((5 : Int)).toNat = 5 from rfl] at hw241_0)
        (try rw [show 5 * 1 = 5 from rfl] at hw241_0)
        (try simp only [Nat.reduceMul, Nat.reduceEqDiff, Go.Addr.add, ↓reduceIte] at hw241_0)
        obtain rfl : ad239 = ad241 := (by injection e241)
        (try simp only [show (5 : Int).toNat = 5 from rfl, Nat.reduceMul, Nat.reduceEqDiff, Go.Addr.add, ↓reduceIte] at hx241_0)
        have qi241 : (5 < l0.length) = True := eq_true (by omega)
        (try rw [show ((5 : Int)).toNat = 5 from rfl] at hx241_0)
        replace hx241_0 := (HB.out.cell (World.block_lt_of_cell? w _ hx241_0)).trans hx241_0
        replace p241 := eq_true p241
        replace q241 := eq_true q241
        have p242 : 0 ≤ (6 : Int) := (by omega)
        have q242 : 6 < (l0.length : Int) := of_decide_eq_true (by first | (with_reducible assumption) | assumption)
        obtain ⟨ad242, e242, hx242_0⟩ := Kd.at_int HR0.out 6 p242 q242
        have hw242_0 := hx242_0
        (try rw [show ((6 : Int)).toNat = 6 from rfl] at hw242_0)
        (try rw [show 6 * 1 = 6 from rfl] at hw242_0)
        (try simp only [Nat.reduceMul, Nat.reduceEqDiff, Go.Addr.add, ↓reduceIte] at hw242_0)
        obtain rfl : ad239 = ad242 := (by injection e242)
        (try simp only [show (6 : Int).toNat = 6 from rfl, Nat.reduceMul, Nat.reduceEqDiff, Go.Addr.add, ↓reduceIte] at hx242_0)
        have qi242 : (6 < l0.length) = True := eq_true (by omega)
        (try rw [show ((6 : Int)).toNat = 6 from rfl] at hx242_0)
        replace hx242_0 := (HB.out.cell (World.block_lt_of_cell? w _ hx242_0)).trans hx242_0
        replace p242 := eq_true p242
        replace q242 := eq_true q242
        have p243 : 0 ≤ (7 : Int) := (by omega)
        have q243 : 7 < (l0.length : Int) := of_decide_eq_true (by first | (with_reducible assumption) | assumption)
        obtain ⟨ad243, e243, hx243_0⟩ := Kd.at_int HR0.out 7 p243 q243
        have hw243_0 := hx243_0
        (try rw [show ((7 : Int)).toNat = 7 from rfl] at hw243_0)
        (try rw [show 7 * 1 = 7 from rfl] at hw243_0)
        (try simp only [Nat.reduceMul, Nat.reduceEqDiff, Go.Addr.add, ↓reduceIte] at hw243_0)
        obtain rfl : ad239 = ad243 := (by injection e243)
        (try simp only [show (7 : Int).toNat = 7 from rfl, Nat.reduceMul, Nat.reduceEqDiff, Go.Addr.add, ↓reduceIte] at hx243_0)
        have qi243 : (7 < l0.length) = True := eq_true (by omega)
        (try rw [show ((7 : Int)).toNat = 7 from rfl] at hx243_0)
        replace hx243_0 := (HB.out.cell (World.block_lt_of_cell? w _ hx243_0)).trans hx243_0
        replace p243 := eq_true p243
        replace q243 := eq_true q243
        refine start_ (n := 23) (S := fun w' => w'.cell? ⟨ad239.block, ad239.off + 3, none⟩ = some (.int .u8 (rd l0 3)) ∧ w'.cell? ⟨ad239.block, ad239.off + 4, none⟩ = some (.int .u8 (rd l0 4)) ∧ w'.cell? ⟨ad239.block, ad239.off + 5, none⟩ = some (.int .u8 (rd l0 5)) ∧ w'.cell? ⟨ad239.block, ad239.off + 6, none⟩ = some (.int .u8 (rd l0 6)) ∧ w'.cell? ⟨ad239.block, ad239.off + 7, none⟩ = some (.int .u8 (rd l0 7))) (ds := []) #[false, false, false, false, false, false, false, false, false, false, false, false, false, false, false, false, false, false, false, false, false, false, false] (by kernel_rfl) rfl rfl ⟨((HB.out.cell (World.block_lt_of_cell? w _ hw239_0)).trans hw239_0), ((HB.out.cell (World.block_lt_of_cell? w _ hw240_0)).trans hw240_0), ((HB.out.cell (World.block_lt_of_cell? w _ hw241_0)).trans hw241_0), ((HB.out.cell (World.block_lt_of_cell? w _ hw242_0)).trans hw242_0), ((HB.out.cell (World.block_lt_of_cell? w _ hw243_0)).trans hw243_0)⟩ (fun hHeld => ?_); refine with_tabW ringroadref26_Decode.tab5 ringroadref26_Decode.bits5 (fun HT_ HW_ => ?_)
        generalize w14.drew = w15 at BK238 HB hx239_0 hx240_0 hx241_0 hx242_0 hx243_0 hHeld ⊢
        refine pure_ (i := 0) (N := some 18) (v := ?_) (a' := ?_) #[true, false, false, false, false, false, false, false, false, false, false, false, false, false, false, false, false, false, false, false, false, false, false] rfl rfl (any_of HT_.out (by kernel_rfl)) (fun _ _ _ h => h) (Or.inl ⟨by rfl, ?_⟩) ?_ ?_
        rotate_left
        ·
         intro w'
         go_simp
         with_reducible rfl
        rotate_left
        ·
         simp only [Act.put, List.setIfInBounds_toArray, List.set_cons_zero, List.set_cons_succ, i64_w, i32_w]
         rfl
        refine pure_ (i := 1) (N := some 19) (v := ?_) (a' := ?_) #[true, true, false, false, false, false, false, false, false, false, false, false, false, false, false, false, false, false, false, false, false, false, false] rfl rfl (any_of HT_.out (by kernel_rfl)) (fun _ _ _ h => h) (Or.inl ⟨by rfl, ?_⟩) ?_ ?_
        rotate_left
        ·
         intro w'
         go_simp
         with_reducible rfl
        rotate_left
        ·
         simp only [Act.put, List.setIfInBounds_toArray, List.set_cons_zero, List.set_cons_succ, i64_w, i32_w]
         rfl
        refine pure_ (i := 4) (N := some 22) (v := ?_) (a' := ?_) #[true, true, false, false, true, false, false, false, false, false, false, false, false, false, false, false, false, false, false, false, false, false, false] rfl rfl (any_of HT_.out (by kernel_rfl)) (fun _ _ _ h => h) (Or.inl ⟨by rfl, ?_⟩) ?_ ?_
        rotate_left
        ·
         intro w'
         go_simp
         with_reducible rfl
        rotate_left
        ·
         simp only [Act.put, List.setIfInBounds_toArray, List.set_cons_zero, List.set_cons_succ, i64_w, i32_w]
         rfl
        refine pure_ (i := 5) (N := some 23) (v := ?_) (a' := ?_) #[true, true, false, false, true, true, false, false, false, false, false, false, false, false, false, false, false, false, false, false, false, false, false] rfl rfl (any_of HT_.out (by kernel_rfl)) (fun _ _ _ h => h) (Or.inl ⟨by rfl, ?_⟩) ?_ ?_
        rotate_left
        ·
         intro w'
         go_simp
         with_reducible rfl
        rotate_left
        ·
         simp only [Act.put, List.setIfInBounds_toArray, List.set_cons_zero, List.set_cons_succ, i64_w, i32_w]
         rfl
        refine pure_ (i := 8) (N := some 26) (v := ?_) (a' := ?_) #[true, true, false, false, true, true, false, false, true, false, false, false, false, false, false, false, false, false, false, false, false, false, false] rfl rfl (any_of HT_.out (by kernel_rfl)) (fun _ _ _ h => h) (Or.inl ⟨by rfl, ?_⟩) ?_ ?_
        rotate_left
        ·
         intro w'
         go_simp
         with_reducible rfl
        rotate_left
        ·
         simp only [Act.put, List.setIfInBounds_toArray, List.set_cons_zero, List.set_cons_succ, i64_w, i32_w]
         rfl
        refine pure_ (i := 9) (N := some 27) (v := ?_) (a' := ?_) #[true, true, false, false, true, true, false, false, true, true, false, false, false, false, false, false, false, false, false, false, false, false, false] rfl rfl (any_of HT_.out (by kernel_rfl)) (fun _ _ _ h => h) (Or.inl ⟨by rfl, ?_⟩) ?_ ?_
        rotate_left
        ·
         intro w'
         go_simp
         with_reducible rfl
        rotate_left
        ·
         simp only [Act.put, List.setIfInBounds_toArray, List.set_cons_zero, List.set_cons_succ, i64_w, i32_w]
         rfl
        refine pure_ (i := 12) (N := some 30) (v := ?_) (a' := ?_) #[true, true, false, false, true, true, false, false, true, true, false, false, true, false, false, false, false, false, false, false, false, false, false] rfl rfl (any_of HT_.out (by kernel_rfl)) (fun _ _ _ h => h) (Or.inl ⟨by rfl, ?_⟩) ?_ ?_
        rotate_left
        ·
         intro w'
         go_simp
         with_reducible rfl
        rotate_left
        ·
         simp only [Act.put, List.setIfInBounds_toArray, List.set_cons_zero, List.set_cons_succ, i64_w, i32_w]
         rfl
        refine pure_ (i := 13) (N := some 31) (v := ?_) (a' := ?_) #[true, true, false, false, true, true, false, false, true, true, false, false, true, true, false, false, false, false, false, false, false, false, false] rfl rfl (any_of HT_.out (by kernel_rfl)) (fun _ _ _ h => h) (Or.inl ⟨by rfl, ?_⟩) ?_ ?_
        rotate_left
        ·
         intro w'
         go_simp
         with_reducible rfl
        rotate_left
        ·
         simp only [Act.put, List.setIfInBounds_toArray, List.set_cons_zero, List.set_cons_succ, i64_w, i32_w]
         rfl
        refine pure_ (i := 16) (N := some 34) (v := ?_) (a' := ?_) #[true, true, false, false, true, true, false, false, true, true, false, false, true, true, false, false, true, false, false, false, false, false, false] rfl rfl (any_of HT_.out (by kernel_rfl)) (fun _ _ _ h => h) (Or.inl ⟨by rfl, ?_⟩) ?_ ?_
        rotate_left
        ·
         intro w'
         go_simp
         with_reducible rfl
        rotate_left
        ·
         simp only [Act.put, List.setIfInBounds_toArray, List.set_cons_zero, List.set_cons_succ, i64_w, i32_w]
         rfl
        refine pure_ (i := 17) (N := some 35) (v := ?_) (a' := ?_) #[true, true, false, false, true, true, false, false, true, true, false, false, true, true, false, false, true, true, false, false, false, false, false] rfl rfl (any_of HT_.out (by kernel_rfl)) (fun _ _ _ h => h) (Or.inl ⟨by rfl, ?_⟩) ?_ ?_
        rotate_left
        ·
         intro w'
         go_simp
         with_reducible rfl
        rotate_left
        ·
         simp only [Act.put, List.setIfInBounds_toArray, List.set_cons_zero, List.set_cons_succ, i64_w, i32_w]
         rfl
        refine take_ (i := 2) (N := some 20) (v := ?_) (a' := ?_) #[true, true, true, false, true, true, false, false, true, true, false, false, true, true, false, false, true, true, false, false, false, false, false] rfl rfl (take_ofW HT_.out HW_.out (by kernel_rfl)) (fun _ _ _ h => h) (Or.inl ⟨by rfl, ?_⟩) hHeld ?_ ?_
        rotate_left
        ·
         rintro w' ⟨s0, s1, s2, s3, s4⟩
         go_simp
         with_reducible rfl
        rotate_left
        ·
         simp only [Act.put, List.setIfInBounds_toArray, List.set_cons_zero, List.set_cons_succ, i64_w, i32_w]
         rfl
        refine pure_ (i := 3) (N := some 21) (v := ?_) (a' := ?_) #[true, true, true, true, true, true, false, false, true, true, false, false, true, true, false, false, true, true, false, false, false, false, false] rfl rfl (any_of HT_.out (by kernel_rfl)) (fun _ _ _ h => h) (Or.inl ⟨by rfl, ?_⟩) ?_ ?_
        rotate_left
        ·
         intro w'
         go_simp
         with_reducible rfl
        rotate_left
        ·
         simp only [Act.put, List.setIfInBounds_toArray, List.set_cons_zero, List.set_cons_succ, i64_w, i32_w]
         rfl
        refine take_ (i := 6) (N := some 24) (v := ?_) (a' := ?_) #[true, true, true, true, true, true, true, false, true, true, false, false, true, true, false, false, true, true, false, false, false, false, false] rfl rfl (take_ofW HT_.out HW_.out (by kernel_rfl)) (fun _ _ _ h => h) (Or.inl ⟨by rfl, ?_⟩) hHeld ?_ ?_
        rotate_left
        ·
         rintro w' ⟨s0, s1, s2, s3, s4⟩
         go_simp
         with_reducible rfl
        rotate_left
        ·
         simp only [Act.put, List.setIfInBounds_toArray, List.set_cons_zero, List.set_cons_succ, i64_w, i32_w]
         rfl
        refine pure_ (i := 7) (N := some 25) (v := ?_) (a' := ?_) #[true, true, true, true, true, true, true, true, true, true, false, false, true, true, false, false, true, true, false, false, false, false, false] rfl rfl (any_of HT_.out (by kernel_rfl)) (fun _ _ _ h => h) (Or.inl ⟨by rfl, ?_⟩) ?_ ?_
        rotate_left
        ·
         intro w'
         go_simp
         with_reducible rfl
        rotate_left
        ·
         simp only [Act.put, List.setIfInBounds_toArray, List.set_cons_zero, List.set_cons_succ, i64_w, i32_w]
         rfl
        refine take_ (i := 10) (N := some 28) (v := ?_) (a' := ?_) #[true, true, true, true, true, true, true, true, true, true, true, false, true, true, false, false, true, true, false, false, false, false, false] rfl rfl (take_ofW HT_.out HW_.out (by kernel_rfl)) (fun _ _ _ h => h) (Or.inl ⟨by rfl, ?_⟩) hHeld ?_ ?_
        rotate_left
        ·
         rintro w' ⟨s0, s1, s2, s3, s4⟩
         go_simp
         with_reducible rfl
        rotate_left
        ·
         simp only [Act.put, List.setIfInBounds_toArray, List.set_cons_zero, List.set_cons_succ, i64_w, i32_w]
         rfl
        refine pure_ (i := 11) (N := some 29) (v := ?_) (a' := ?_) #[true, true, true, true, true, true, true, true, true, true, true, true, true, true, false, false, true, true, false, false, false, false, false] rfl rfl (any_of HT_.out (by kernel_rfl)) (fun _ _ _ h => h) (Or.inl ⟨by rfl, ?_⟩) ?_ ?_
        rotate_left
        ·
         intro w'
         go_simp
         with_reducible rfl
        rotate_left
        ·
         simp only [Act.put, List.setIfInBounds_toArray, List.set_cons_zero, List.set_cons_succ, i64_w, i32_w]
         rfl
        refine take_ (i := 14) (N := some 32) (v := ?_) (a' := ?_) #[true, true, true, true, true, true, true, true, true, true, true, true, true, true, true, false, true, true, false, false, false, false, false] rfl rfl (take_ofW HT_.out HW_.out (by kernel_rfl)) (fun _ _ _ h => h) (Or.inl ⟨by rfl, ?_⟩) hHeld ?_ ?_
        rotate_left
        ·
         rintro w' ⟨s0, s1, s2, s3, s4⟩
         go_simp
         with_reducible rfl
        rotate_left
        ·
         simp only [Act.put, List.setIfInBounds_toArray, List.set_cons_zero, List.set_cons_succ, i64_w, i32_w]
         rfl
        refine pure_ (i := 15) (N := some 33) (v := ?_) (a' := ?_) #[true, true, true, true, true, true, true, true, true, true, true, true, true, true, true, true, true, true, false, false, false, false, false] rfl rfl (any_of HT_.out (by kernel_rfl)) (fun _ _ _ h => h) (Or.inl ⟨by rfl, ?_⟩) ?_ ?_
        rotate_left
        ·
         intro w'
         go_simp
         with_reducible rfl
        rotate_left
        ·
         simp only [Act.put, List.setIfInBounds_toArray, List.set_cons_zero, List.set_cons_succ, i64_w, i32_w]
         rfl
        refine take_ (i := 18) (N := some 36) (v := ?_) (a' := ?_) #[true, true, true, true, true, true, true, true, true, true, true, true, true, true, true, true, true, true, true, false, false, false, false] rfl rfl (take_ofW HT_.out HW_.out (by kernel_rfl)) (fun _ _ _ h => h) (Or.inl ⟨by rfl, ?_⟩) hHeld ?_ ?_
        rotate_left
        ·
         rintro w' ⟨s0, s1, s2, s3, s4⟩
         go_simp
         with_reducible rfl
        rotate_left
        ·
         simp only [Act.put, List.setIfInBounds_toArray, List.set_cons_zero, List.set_cons_succ, i64_w, i32_w]
         rfl
        refine pure_ (i := 19) (N := some 37) (v := ?_) (a' := ?_) #[true, true, true, true, true, true, true, true, true, true, true, true, true, true, true, true, true, true, true, true, false, false, false] rfl rfl (any_of HT_.out (by kernel_rfl)) (fun _ _ _ h => h) (Or.inl ⟨by rfl, ?_⟩) ?_ ?_
        rotate_left
        ·
         intro w'
         go_simp
         with_reducible rfl
        rotate_left
        ·
         simp only [Act.put, List.setIfInBounds_toArray, List.set_cons_zero, List.set_cons_succ, i64_w, i32_w]
         rfl
        refine pure_ (i := 20) (N := some 38) (v := ?_) (a' := ?_) #[true, true, true, true, true, true, true, true, true, true, true, true, true, true, true, true, true, true, true, true, true, false, false] rfl rfl (any_of HT_.out (by kernel_rfl)) (fun _ _ _ h => h) (Or.inl ⟨by rfl, ?_⟩) ?_ ?_
        rotate_left
        ·
         intro w'
         go_simp
         with_reducible rfl
        rotate_left
        ·
         simp only [Act.put, List.setIfInBounds_toArray, List.set_cons_zero, List.set_cons_succ, i64_w, i32_w]
         rfl
        refine one_ (i := 21) (N := some 5) #[true, true, true, true, true, true, true, true, true, true, true, true, true, true, true, true, true, true, true, true, true, true, false] rfl rfl (one_of HT_.out (by kernel_rfl)) (by decide) (fun K hK => ?_)
        refine box_step ?hg (N := 5) ?hd (cs := #[.int .i64 0, .int .i64 0, .int .i64 0, .int .i64 0, .int .i64 0]) (t := 23) ?hr ?_; (case hd => rfl); (case hg => rfl); (case hr => first | (go_simp; done) | (go_simp; rfl))
        intro gb244 hg w16 hbox hb
        have n0_ := Aside0.mk (blk_below (g := gb238) (o := .cells #[.int .i64 0, .int .i64 0, .int .i64 0, .int .i64 0, .int .i64 0] 23 (0, 0)) (by (with_reducible repeat (first | refine blk_drewN ?_ _ | refine blk_drew ?_ | refine blk_alloc ?_ _)); exact BK238.out) hb)
        have n1_ := Aside0.mk (below_step (by repeat (first | (with_reducible first | exact HB.out | apply below_alloc | apply pw_below_drewN | apply below_drew1 | refine below_set ?_ GE238.out) | exact HB.out)) hb)
        have n2_ := Aside0.mk (hbox)
        have n3_ := Aside0.mk ((by rw [hg]; exact (below_size (by repeat (first | (with_reducible first | exact HB.out | apply below_alloc | apply pw_below_drewN | apply below_drew1 | refine below_set ?_ GE238.out) | exact HB.out))) : w.heap.size ≤ gb244))
        have n4_ := Aside0.mk ((by rw [hg]; exact (below_size (by repeat (first | (with_reducible first | exact HB.out | apply below_alloc | apply pw_below_drewN | apply below_drew1 | refine below_set ?_ GE238.out) | exact HB.out))) : w.heap.size ≤ gb244))
        have n5_ := Aside0.mk ((by rw [hg]; exact Nat.ne_of_lt (blk_lt (g := gb238) (o := .cells #[.int .i64 0, .int .i64 0, .int .i64 0, .int .i64 0, .int .i64 0] 23 (0, 0)) (by (with_reducible repeat (first | refine blk_drewN ?_ _ | refine blk_drew ?_ | refine blk_alloc ?_ _)); exact BK238.out)) : gb238 ≠ gb244))
        have n6_ := Aside0.mk ((by rw [hg]; exact Nat.ne_of_gt (blk_lt (g := gb238) (o := .cells #[.int .i64 0, .int .i64 0, .int .i64 0, .int .i64 0, .int .i64 0] 23 (0, 0)) (by (with_reducible repeat (first | refine blk_drewN ?_ _ | refine blk_drew ?_ | refine blk_alloc ?_ _)); exact BK238.out)) : gb244 ≠ gb238))
        clear BK238
        clear HB
        have BK238 := n0_
        have HB := n1_
        have BK244 := n2_
        have GW244 := n3_
        have GE244 := n4_
        have NB238_244 := n5_
        have NB244_238 := n6_
        clear n0_ n1_ n2_ n3_ n4_ n5_ n6_
        clear hb hbox hg
        refine hK.out _ _ ⟨((HB.out.cell (World.block_lt_of_cell? w _ hw239_0)).trans hw239_0), ((HB.out.cell (World.block_lt_of_cell? w _ hw240_0)).trans hw240_0), ((HB.out.cell (World.block_lt_of_cell? w _ hw241_0)).trans hw241_0), ((HB.out.cell (World.block_lt_of_cell? w _ hw242_0)).trans hw242_0), ((HB.out.cell (World.block_lt_of_cell? w _ hw243_0)).trans hw243_0)⟩ (fun hHeld => ?_)
        clear hK K
        refine norm_ (a' := ?_) ?_ ?_
        rotate_left
        ·
         show Act.put _ (some 5) _ = _
         simp only [Act.put, List.setIfInBounds_toArray, List.set_cons_zero, List.set_cons_succ, i64_w, i32_w]
         rfl
        refine one_ (i := 22) (N := none) #[true, true, true, true, true, true, true, true, true, true, true, true, true, true, true, true, true, true, true, true, true, true, true] rfl rfl (one_of HT_.out (by kernel_rfl)) (by decide) (fun K hK => ?_)
        have hs17 : w16.cell? ⟨gb244, 0, none⟩ = some (.int .i64 0) := (blk_cell BK244.out 0).trans rfl
        have hfs17 := blk_frozen BK244.out 0
        have hns17_0 := NB238_244.out
        have hms17_0 := NB244_238.out
        have hs18 : w16.cell? ⟨gb244, 1, none⟩ = some (.int .i64 0) := (blk_cell BK244.out 1).trans rfl
        have hfs18 := blk_frozen BK244.out 1
        have hns18_0 := NB238_244.out
        have hms18_0 := NB244_238.out
        have hs19 : w16.cell? ⟨gb244, 2, none⟩ = some (.int .i64 0) := (blk_cell BK244.out 2).trans rfl
        have hfs19 := blk_frozen BK244.out 2
        have hns19_0 := NB238_244.out
        have hms19_0 := NB244_238.out
        have hs20 : w16.cell? ⟨gb244, 3, none⟩ = some (.int .i64 0) := (blk_cell BK244.out 3).trans rfl
        have hfs20 := blk_frozen BK244.out 3
        have hns20_0 := NB238_244.out
        have hms20_0 := NB244_238.out
        have hs21 : w16.cell? ⟨gb244, 4, none⟩ = some (.int .i64 0) := (blk_cell BK244.out 4).trans rfl
        have hfs21 := blk_frozen BK244.out 4
        have hns21_0 := NB238_244.out
        have hms21_0 := NB244_238.out
        refine skip_ (w1 := ?_) (by rfl) rfl ?_ ?_
        rotate_left
        ·
         go_simp
         rfl
        refine hK.out _ _ ⟨((cell_far (p := ⟨gb244, _, none⟩) (by first | exact Nat.ne_of_lt (Nat.lt_of_lt_of_le (by have := World.block_lt_of_cell? _ _ hw239_0; first | rwa [add_block] at this | exact this) GW244.out) | (rw [add_block]; exact Nat.ne_of_lt (Nat.lt_of_lt_of_le (by have := World.block_lt_of_cell? _ _ hw239_0; first | rwa [add_block] at this | exact this) GW244.out)) | (show (Addr.add _ _).block ≠ _; rw [add_block]; exact Nat.ne_of_lt (Nat.lt_of_lt_of_le (by have := World.block_lt_of_cell? _ _ hw239_0; first | rwa [add_block] at this | exact this) GW244.out)) | (dsimp only; exact Nat.ne_of_lt (Nat.lt_of_lt_of_le (by have := World.block_lt_of_cell? _ _ hw239_0; first | rwa [add_block] at this | exact this) GW244.out))) _).trans (((cell_far (p := ⟨gb244, _, none⟩) (by first | exact Nat.ne_of_lt (Nat.lt_of_lt_of_le (by have := World.block_lt_of_cell? _ _ hw239_0; first | rwa [add_block] at this | exact this) GW244.out) | (rw [add_block]; exact Nat.ne_of_lt (Nat.lt_of_lt_of_le (by have := World.block_lt_of_cell? _ _ hw239_0; first | rwa [add_block] at this | exact this) GW244.out)) | (show (Addr.add _ _).block ≠ _; rw [add_block]; exact Nat.ne_of_lt (Nat.lt_of_lt_of_le (by have := World.block_lt_of_cell? _ _ hw239_0; first | rwa [add_block] at this | exact this) GW244.out)) | (dsimp only; exact Nat.ne_of_lt (Nat.lt_of_lt_of_le (by have := World.block_lt_of_cell? _ _ hw239_0; first | rwa [add_block] at this | exact this) GW244.out))) _).trans (((cell_far (p := ⟨gb244, _, none⟩) (by first | exact Nat.ne_of_lt (Nat.lt_of_lt_of_le (by have := World.block_lt_of_cell? _ _ hw239_0; first | rwa [add_block] at this | exact this) GW244.out) | (rw [add_block]; exact Nat.ne_of_lt (Nat.lt_of_lt_of_le (by have := World.block_lt_of_cell? _ _ hw239_0; first | rwa [add_block] at this | exact this) GW244.out)) | (show (Addr.add _ _).block ≠ _; rw [add_block]; exact Nat.ne_of_lt (Nat.lt_of_lt_of_le (by have := World.block_lt_of_cell? _ _ hw239_0; first | rwa [add_block] at this | exact this) GW244.out)) | (dsimp only; exact Nat.ne_of_lt (Nat.lt_of_lt_of_le (by have := World.block_lt_of_cell? _ _ hw239_0; first | rwa [add_block] at this | exact this) GW244.out))) _).trans (((cell_far (p := ⟨gb244, _, none⟩) (by first | exact Nat.ne_of_lt (Nat.lt_of_lt_of_le (by have := World.block_lt_of_cell? _ _ hw239_0; first | rwa [add_block] at this | exact this) GW244.out) | (rw [add_block]; exact Nat.ne_of_lt (Nat.lt_of_lt_of_le (by have := World.block_lt_of_cell? _ _ hw239_0; first | rwa [add_block] at this | exact this) GW244.out)) | (show (Addr.add _ _).block ≠ _; rw [add_block]; exact Nat.ne_of_lt (Nat.lt_of_lt_of_le (by have := World.block_lt_of_cell? _ _ hw239_0; first | rwa [add_block] at this | exact this) GW244.out)) | (dsimp only; exact Nat.ne_of_lt (Nat.lt_of_lt_of_le (by have := World.block_lt_of_cell? _ _ hw239_0; first | rwa [add_block] at this | exact this) GW244.out))) _).trans (((cell_far (p := ⟨gb244, _, none⟩) (by first | exact Nat.ne_of_lt (Nat.lt_of_lt_of_le (by have := World.block_lt_of_cell? _ _ hw239_0; first | rwa [add_block] at this | exact this) GW244.out) | (rw [add_block]; exact Nat.ne_of_lt (Nat.lt_of_lt_of_le (by have := World.block_lt_of_cell? _ _ hw239_0; first | rwa [add_block] at this | exact this) GW244.out)) | (show (Addr.add _ _).block ≠ _; rw [add_block]; exact Nat.ne_of_lt (Nat.lt_of_lt_of_le (by have := World.block_lt_of_cell? _ _ hw239_0; first | rwa [add_block] at this | exact this) GW244.out)) | (dsimp only; exact Nat.ne_of_lt (Nat.lt_of_lt_of_le (by have := World.block_lt_of_cell? _ _ hw239_0; first | rwa [add_block] at this | exact this) GW244.out))) _).trans (hHeld.1)))))))))), ((cell_far (p := ⟨gb244, _, none⟩) (by first | exact Nat.ne_of_lt (Nat.lt_of_lt_of_le (by have := World.block_lt_of_cell? _ _ hw240_0; first | rwa [add_block] at this | exact this) GW244.out) | (rw [add_block]; exact Nat.ne_of_lt (Nat.lt_of_lt_of_le (by have := World.block_lt_of_cell? _ _ hw240_0; first | rwa [add_block] at this | exact this) GW244.out)) | (show (Addr.add _ _).block ≠ _; rw [add_block]; exact Nat.ne_of_lt (Nat.lt_of_lt_of_le (by have := World.block_lt_of_cell? _ _ hw240_0; first | rwa [add_block] at this | exact this) GW244.out)) | (dsimp only; exact Nat.ne_of_lt (Nat.lt_of_lt_of_le (by have := World.block_lt_of_cell? _ _ hw240_0; first | rwa [add_block] at this | exact this) GW244.out))) _).trans (((cell_far (p := ⟨gb244, _, none⟩) (by first | exact Nat.ne_of_lt (Nat.lt_of_lt_of_le (by have := World.block_lt_of_cell? _ _ hw240_0; first | rwa [add_block] at this | exact this) GW244.out) | (rw [add_block]; exact Nat.ne_of_lt (Nat.lt_of_lt_of_le (by have := World.block_lt_of_cell? _ _ hw240_0; first | rwa [add_block] at this | exact this) GW244.out)) | (show (Addr.add _ _).block ≠ _; rw [add_block]; exact Nat.ne_of_lt (Nat.lt_of_lt_of_le (by have := World.block_lt_of_cell? _ _ hw240_0; first | rwa [add_block] at this | exact this) GW244.out)) | (dsimp only; exact Nat.ne_of_lt (Nat.lt_of_lt_of_le (by have := World.block_lt_of_cell? _ _ hw240_0; first | rwa [add_block] at this | exact this) GW244.out))) _).trans (((cell_far (p := ⟨gb244, _, none⟩) (by first | exact Nat.ne_of_lt (Nat.lt_of_lt_of_le (by have := World.block_lt_of_cell? _ _ hw240_0; first | rwa [add_block] at this | exact this) GW244.out) | (rw [add_block]; exact Nat.ne_of_lt (Nat.lt_of_lt_of_le (by have := World.block_lt_of_cell? _ _ hw240_0; first | rwa [add_block] at this | exact this) GW244.out)) | (show (Addr.add _ _).block ≠ _; rw [add_block]; exact Nat.ne_of_lt (Nat.lt_of_lt_of_le (by have := World.block_lt_of_cell? _ _ hw240_0; first | rwa [add_block] at this | exact this) GW244.out)) | (dsimp only; exact Nat.ne_of_lt (Nat.lt_of_lt_of_le (by have := World.block_lt_of_cell? _ _ hw240_0; first | rwa [add_block] at this | exact this) GW244.out))) _).trans (((cell_far (p := ⟨gb244, _, none⟩) (by first | exact Nat.ne_of_lt (Nat.lt_of_lt_of_le (by have := World.block_lt_of_cell? _ _ hw240_0; first | rwa [add_block] at this | exact this) GW244.out) | (rw [add_block]; exact Nat.ne_of_lt (Nat.lt_of_lt_of_le (by have := World.block_lt_of_cell? _ _ hw240_0; first | rwa [add_block] at this | exact this) GW244.out)) | (show (Addr.add _ _).block ≠ _; rw [add_block]; exact Nat.ne_of_lt (Nat.lt_of_lt_of_le (by have := World.block_lt_of_cell? _ _ hw240_0; first | rwa [add_block] at this | exact this) GW244.out)) | (dsimp only; exact Nat.ne_of_lt (Nat.lt_of_lt_of_le (by have := World.block_lt_of_cell? _ _ hw240_0; first | rwa [add_block] at this | exact this) GW244.out))) _).trans (((cell_far (p := ⟨gb244, _, none⟩) (by first | exact Nat.ne_of_lt (Nat.lt_of_lt_of_le (by have := World.block_lt_of_cell? _ _ hw240_0; first | rwa [add_block] at this | exact this) GW244.out) | (rw [add_block]; exact Nat.ne_of_lt (Nat.lt_of_lt_of_le (by have := World.block_lt_of_cell? _ _ hw240_0; first | rwa [add_block] at this | exact this) GW244.out)) | (show (Addr.add _ _).block ≠ _; rw [add_block]; exact Nat.ne_of_lt (Nat.lt_of_lt_of_le (by have := World.block_lt_of_cell? _ _ hw240_0; first | rwa [add_block] at this | exact this) GW244.out)) | (dsimp only; exact Nat.ne_of_lt (Nat.lt_of_lt_of_le (by have := World.block_lt_of_cell? _ _ hw240_0; first | rwa [add_block] at this | exact this) GW244.out))) _).trans (hHeld.2.1)))))))))), ((cell_far (p := ⟨gb244, _, none⟩) (by first | exact Nat.ne_of_lt (Nat.lt_of_lt_of_le (by have := World.block_lt_of_cell? _ _ hw241_0; first | rwa [add_block] at this | exact this) GW244.out) | (rw [add_block]; exact Nat.ne_of_lt (Nat.lt_of_lt_of_le (by have := World.block_lt_of_cell? _ _ hw241_0; first | rwa [add_block] at this | exact this) GW244.out)) | (show (Addr.add _ _).block ≠ _; rw [add_block]; exact Nat.ne_of_lt (Nat.lt_of_lt_of_le (by have := World.block_lt_of_cell? _ _ hw241_0; first | rwa [add_block] at this | exact this) GW244.out)) | (dsimp only; exact Nat.ne_of_lt (Nat.lt_of_lt_of_le (by have := World.block_lt_of_cell? _ _ hw241_0; first | rwa [add_block] at this | exact this) GW244.out))) _).trans (((cell_far (p := ⟨gb244, _, none⟩) (by first | exact Nat.ne_of_lt (Nat.lt_of_lt_of_le (by have := World.block_lt_of_cell? _ _ hw241_0; first | rwa [add_block] at this | exact this) GW244.out) | (rw [add_block]; exact Nat.ne_of_lt (Nat.lt_of_lt_of_le (by have := World.block_lt_of_cell? _ _ hw241_0; first | rwa [add_block] at this | exact this) GW244.out)) | (show (Addr.add _ _).block ≠ _; rw [add_block]; exact Nat.ne_of_lt (Nat.lt_of_lt_of_le (by have := World.block_lt_of_cell? _ _ hw241_0; first | rwa [add_block] at this | exact this) GW244.out)) | (dsimp only; exact Nat.ne_of_lt (Nat.lt_of_lt_of_le (by have := World.block_lt_of_cell? _ _ hw241_0; first | rwa [add_block] at this | exact this) GW244.out))) _).trans (((cell_far (p := ⟨gb244, _, none⟩) (by first | exact Nat.ne_of_lt (Nat.lt_of_lt_of_le (by have := World.block_lt_of_cell? _ _ hw241_0; first | rwa [add_block] at this | exact this) GW244.out) | (rw [add_block]; exact Nat.ne_of_lt (Nat.lt_of_lt_of_le (by have := World.block_lt_of_cell? _ _ hw241_0; first | rwa [add_block] at this | exact this) GW244.out)) | (show (Addr.add _ _).block ≠ _; rw [add_block]; exact Nat.ne_of_lt (Nat.lt_of_lt_of_le (by have := World.block_lt_of_cell? _ _ hw241_0; first | rwa [add_block] at this | exact this) GW244.out)) | (dsimp only; exact Nat.ne_of_lt (Nat.lt_of_lt_of_le (by have := World.block_lt_of_cell? _ _ hw241_0; first | rwa [add_block] at this | exact this) GW244.out))) _).trans (((cell_far (p := ⟨gb244, _, none⟩) (by first | exact Nat.ne_of_lt (Nat.lt_of_lt_of_le (by have := World.block_lt_of_cell? _ _ hw241_0; first | rwa [add_block] at this | exact this) GW244.out) | (rw [add_block]; exact Nat.ne_of_lt (Nat.lt_of_lt_of_le (by have := World.block_lt_of_cell? _ _ hw241_0; first | rwa [add_block] at this | exact this) GW244.out)) | (show (Addr.add _ _).block ≠ _; rw [add_block]; exact Nat.ne_of_lt (Nat.lt_of_lt_of_le (by have := World.block_lt_of_cell? _ _ hw241_0; first | rwa [add_block] at this | exact this) GW244.out)) | (dsimp only; exact Nat.ne_of_lt (Nat.lt_of_lt_of_le (by have := World.block_lt_of_cell? _ _ hw241_0; first | rwa [add_block] at this | exact this) GW244.out))) _).trans (((cell_far (p := ⟨gb244, _, none⟩) (by first | exact Nat.ne_of_lt (Nat.lt_of_lt_of_le (by have := World.block_lt_of_cell? _ _ hw241_0; first | rwa [add_block] at this | exact this) GW244.out) | (rw [add_block]; exact Nat.ne_of_lt (Nat.lt_of_lt_of_le (by have := World.block_lt_of_cell? _ _ hw241_0; first | rwa [add_block] at this | exact this) GW244.out)) | (show (Addr.add _ _).block ≠ _; rw [add_block]; exact Nat.ne_of_lt (Nat.lt_of_lt_of_le (by have := World.block_lt_of_cell? _ _ hw241_0; first | rwa [add_block] at this | exact this) GW244.out)) | (dsimp only; exact Nat.ne_of_lt (Nat.lt_of_lt_of_le (by have := World.block_lt_of_cell? _ _ hw241_0; first | rwa [add_block] at this | exact this) GW244.out))) _).trans (hHeld.2.2.1)))))))))), ((cell_far (p := ⟨gb244, _, none⟩) (by first | exact Nat.ne_of_lt (Nat.lt_of_lt_of_le (by have := World.block_lt_of_cell? _ _ hw242_0; first | rwa [add_block] at this | exact this) GW244.out) | (rw [add_block]; exact Nat.ne_of_lt (Nat.lt_of_lt_of_le (by have := World.block_lt_of_cell? _ _ hw242_0; first | rwa [add_block] at this | exact this) GW244.out)) | (show (Addr.add _ _).block ≠ _; rw [add_block]; exact Nat.ne_of_lt (Nat.lt_of_lt_of_le (by have := World.block_lt_of_cell? _ _ hw242_0; first | rwa [add_block] at this | exact this) GW244.out)) | (dsimp only; exact Nat.ne_of_lt (Nat.lt_of_lt_of_le (by have := World.block_lt_of_cell? _ _ hw242_0; first | rwa [add_block] at this | exact this) GW244.out))) _).trans (((cell_far (p := ⟨gb244, _, none⟩) (by first | exact Nat.ne_of_lt (Nat.lt_of_lt_of_le (by have := World.block_lt_of_cell? _ _ hw242_0; first | rwa [add_block] at this | exact this) GW244.out) | (rw [add_block]; exact Nat.ne_of_lt (Nat.lt_of_lt_of_le (by have := World.block_lt_of_cell? _ _ hw242_0; first | rwa [add_block] at this | exact this) GW244.out)) | (show (Addr.add _ _).block ≠ _; rw [add_block]; exact Nat.ne_of_lt (Nat.lt_of_lt_of_le (by have := World.block_lt_of_cell? _ _ hw242_0; first | rwa [add_block] at this | exact this) GW244.out)) | (dsimp only; exact Nat.ne_of_lt (Nat.lt_of_lt_of_le (by have := World.block_lt_of_cell? _ _ hw242_0; first | rwa [add_block] at this | exact this) GW244.out))) _).trans (((cell_far (p := ⟨gb244, _, none⟩) (by first | exact Nat.ne_of_lt (Nat.lt_of_lt_of_le (by have := World.block_lt_of_cell? _ _ hw242_0; first | rwa [add_block] at this | exact this) GW244.out) | (rw [add_block]; exact Nat.ne_of_lt (Nat.lt_of_lt_of_le (by have := World.block_lt_of_cell? _ _ hw242_0; first | rwa [add_block] at this | exact this) GW244.out)) | (show (Addr.add _ _).block ≠ _; rw [add_block]; exact Nat.ne_of_lt (Nat.lt_of_lt_of_le (by have := World.block_lt_of_cell? _ _ hw242_0; first | rwa [add_block] at this | exact this) GW244.out)) | (dsimp only; exact Nat.ne_of_lt (Nat.lt_of_lt_of_le (by have := World.block_lt_of_cell? _ _ hw242_0; first | rwa [add_block] at this | exact this) GW244.out))) _).trans (((cell_far (p := ⟨gb244, _, none⟩) (by first | exact Nat.ne_of_lt (Nat.lt_of_lt_of_le (by have := World.block_lt_of_cell? _ _ hw242_0; first | rwa [add_block] at this | exact this) GW244.out) | (rw [add_block]; exact Nat.ne_of_lt (Nat.lt_of_lt_of_le (by have := World.block_lt_of_cell? _ _ hw242_0; first | rwa [add_block] at this | exact this) GW244.out)) | (show (Addr.add _ _).block ≠ _; rw [add_block]; exact Nat.ne_of_lt (Nat.lt_of_lt_of_le (by have := World.block_lt_of_cell? _ _ hw242_0; first | rwa [add_block] at this | exact this) GW244.out)) | (dsimp only; exact Nat.ne_of_lt (Nat.lt_of_lt_of_le (by have := World.block_lt_of_cell? _ _ hw242_0; first | rwa [add_block] at this | exact this) GW244.out))) _).trans (((cell_far (p := ⟨gb244, _, none⟩) (by first | exact Nat.ne_of_lt (Nat.lt_of_lt_of_le (by have := World.block_lt_of_cell? _ _ hw242_0; first | rwa [add_block] at this | exact this) GW244.out) | (rw [add_block]; exact Nat.ne_of_lt (Nat.lt_of_lt_of_le (by have := World.block_lt_of_cell? _ _ hw242_0; first | rwa [add_block] at this | exact this) GW244.out)) | (show (Addr.add _ _).block ≠ _; rw [add_block]; exact Nat.ne_of_lt (Nat.lt_of_lt_of_le (by have := World.block_lt_of_cell? _ _ hw242_0; first | rwa [add_block] at this | exact this) GW244.out)) | (dsimp only; exact Nat.ne_of_lt (Nat.lt_of_lt_of_le (by have := World.block_lt_of_cell? _ _ hw242_0; first | rwa [add_block] at this | exact this) GW244.out))) _).trans (hHeld.2.2.2.1)))))))))), ((cell_far (p := ⟨gb244, _, none⟩) (by first | exact Nat.ne_of_lt (Nat.lt_of_lt_of_le (by have := World.block_lt_of_cell? _ _ hw243_0; first | rwa [add_block] at this | exact this) GW244.out) | (rw [add_block]; exact Nat.ne_of_lt (Nat.lt_of_lt_of_le (by have := World.block_lt_of_cell? _ _ hw243_0; first | rwa [add_block] at this | exact this) GW244.out)) | (show (Addr.add _ _).block ≠ _; rw [add_block]; exact Nat.ne_of_lt (Nat.lt_of_lt_of_le (by have := World.block_lt_of_cell? _ _ hw243_0; first | rwa [add_block] at this | exact this) GW244.out)) | (dsimp only; exact Nat.ne_of_lt (Nat.lt_of_lt_of_le (by have := World.block_lt_of_cell? _ _ hw243_0; first | rwa [add_block] at this | exact this) GW244.out))) _).trans (((cell_far (p := ⟨gb244, _, none⟩) (by first | exact Nat.ne_of_lt (Nat.lt_of_lt_of_le (by have := World.block_lt_of_cell? _ _ hw243_0; first | rwa [add_block] at this | exact this) GW244.out) | (rw [add_block]; exact Nat.ne_of_lt (Nat.lt_of_lt_of_le (by have := World.block_lt_of_cell? _ _ hw243_0; first | rwa [add_block] at this | exact this) GW244.out)) | (show (Addr.add _ _).block ≠ _; rw [add_block]; exact Nat.ne_of_lt (Nat.lt_of_lt_of_le (by have := World.block_lt_of_cell? _ _ hw243_0; first | rwa [add_block] at this | exact this) GW244.out)) | (dsimp only; exact Nat.ne_of_lt (Nat.lt_of_lt_of_le (by have := World.block_lt_of_cell? _ _ hw243_0; first | rwa [add_block] at this | exact this) GW244.out))) _).trans (((cell_far (p := ⟨gb244, _, none⟩) (by first | exact Nat.ne_of_lt (Nat.lt_of_lt_of_le (by have := World.block_lt_of_cell? _ _ hw243_0; first | rwa [add_block] at this | exact this) GW244.out) | (rw [add_block]; exact Nat.ne_of_lt (Nat.lt_of_lt_of_le (by have := World.block_lt_of_cell? _ _ hw243_0; first | rwa [add_block] at this | exact this) GW244.out)) | (show (Addr.add _ _).block ≠ _; rw [add_block]; exact Nat.ne_of_lt (Nat.lt_of_lt_of_le (by have := World.block_lt_of_cell? _ _ hw243_0; first | rwa [add_block] at this | exact this) GW244.out)) | (dsimp only; exact Nat.ne_of_lt (Nat.lt_of_lt_of_le (by have := World.block_lt_of_cell? _ _ hw243_0; first | rwa [add_block] at this | exact this) GW244.out))) _).trans (((cell_far (p := ⟨gb244, _, none⟩) (by first | exact Nat.ne_of_lt (Nat.lt_of_lt_of_le (by have := World.block_lt_of_cell? _ _ hw243_0; first | rwa [add_block] at this | exact this) GW244.out) | (rw [add_block]; exact Nat.ne_of_lt (Nat.lt_of_lt_of_le (by have := World.block_lt_of_cell? _ _ hw243_0; first | rwa [add_block] at this | exact this) GW244.out)) | (show (Addr.add _ _).block ≠ _; rw [add_block]; exact Nat.ne_of_lt (Nat.lt_of_lt_of_le (by have := World.block_lt_of_cell? _ _ hw243_0; first | rwa [add_block] at this | exact this) GW244.out)) | (dsimp only; exact Nat.ne_of_lt (Nat.lt_of_lt_of_le (by have := World.block_lt_of_cell? _ _ hw243_0; first | rwa [add_block] at this | exact this) GW244.out))) _).trans (((cell_far (p := ⟨gb244, _, none⟩) (by first | exact Nat.ne_of_lt (Nat.lt_of_lt_of_le (by have := World.block_lt_of_cell? _ _ hw243_0; first | rwa [add_block] at this | exact this) GW244.out) | (rw [add_block]; exact Nat.ne_of_lt (Nat.lt_of_lt_of_le (by have := World.block_lt_of_cell? _ _ hw243_0; first | rwa [add_block] at this | exact this) GW244.out)) | (show (Addr.add _ _).block ≠ _; rw [add_block]; exact Nat.ne_of_lt (Nat.lt_of_lt_of_le (by have := World.block_lt_of_cell? _ _ hw243_0; first | rwa [add_block] at this | exact this) GW244.out)) | (dsimp only; exact Nat.ne_of_lt (Nat.lt_of_lt_of_le (by have := World.block_lt_of_cell? _ _ hw243_0; first | rwa [add_block] at this | exact this) GW244.out))) _).trans (hHeld.2.2.2.2))))))))))⟩ (fun hHeld => ?_)
        clear hK K
        refine done_ (done_of HT_.out (by kernel_rfl)) ?_
        go_upto_region 6 with (fail)
        go_cut [59] (fun v59 wc => ∃ (kq : Nat) (x59_12 : Bool), v59 = .bool x59_12 ∧ Aside0 (ringroadref26_Decode.j0 kq l0 x59_12 (wrap64 (rd l0 3)) (wrap64 (rd l0 4)) (wrap64 (rd l0 5)) (wrap64 (rd l0 6)) (wrap64 (rd l0 7)) = some (r1, r2, r3, r4, r5, r6, r7)) ∧ Aside0 (kq ≤ k) ∧ Aside0 (wc.heap[gb238]? = some (.cells #[.int .i64 0, .int .i64 0, .int .i64 0, .int .i64 0, .int .i64 0] 23 (0, 0))) ∧ Aside0 (wc.heap[gb244]? = some (.cells #[.int .i64 (wrap64 (rd l0 3)), .int .i64 (wrap64 (rd l0 4)), .int .i64 (wrap64 (rd l0 5)), .int .i64 (wrap64 (rd l0 6)), .int .i64 (wrap64 (rd l0 7))] 23 (0, 0))) ∧ Aside0 (Below w.heap.size w wc))
        case first =>
         have H := HC13.out
         clear HC13
         by_cases c22 : 0 < (l0.length : Int)
         ·
          rw [if_pos c22] at H
          have c22b0 : decide (0 < (l0.length : Int)) = true := decide_eq_true c22
          have c22b1 : decide (0 < l0.length) = true := decide_eq_true (by omega)
          clear c22
          (first | rw [c22b0] | (simp only [i64_w, i32_w]; rw [c22b0]) | skip)
          by_cases c23 : (rd l0 0) = 82
          ·
           rw [if_pos c23] at H
           have c23b0 : ((rd l0 0) == 82) = true := beq_iff_eq.mpr c23
           have c23b1 : ((rd l0 0) != 82) = false := bne_eq_false_iff_eq.mpr c23
           clear c23
           by_cases c24 : 1 < (l0.length : Int)
           ·
            rw [if_pos c24] at H
            have c24b0 : decide (1 < (l0.length : Int)) = true := decide_eq_true c24
            have c24b1 : decide (1 < l0.length) = true := decide_eq_true (by omega)
            clear c24
            by_cases c25 : (rd l0 1) = 82
            ·
             rw [if_pos c25] at H
             have c25b0 : ((rd l0 1) == 82) = true := beq_iff_eq.mpr c25
             have c25b1 : ((rd l0 1) != 82) = false := bne_eq_false_iff_eq.mpr c25
             clear c25
             by_cases c26 : 2 < (l0.length : Int)
             ·
              rw [if_pos c26] at H
              have c26b0 : decide (2 < (l0.length : Int)) = true := decide_eq_true c26
              have c26b1 : decide (2 < l0.length) = true := decide_eq_true (by omega)
              clear c26
              by_cases c27 : (rd l0 2) = 1
              ·
               rw [if_pos c27] at H
               have c27b0 : ((rd l0 2) == 1) = true := beq_iff_eq.mpr c27
               have c27b1 : ((rd l0 2) != 1) = false := bne_eq_false_iff_eq.mpr c27
               clear c27
               replace H := Option.bind_eq_some_iff.mp H
               obtain ⟨t248, A280, H⟩ := H
               replace H : (ringroadref26_Decode.j0 k l0 (!t248) (wrap64 (rd l0 3)) (wrap64 (rd l0 4)) (wrap64 (rd l0 5)) (wrap64 (rd l0 6)) (wrap64 (rd l0 7))) = some (r1, r2, r3, r4, r5, r6, r7) := H
               have A28 := Aside0.mk A280
               clear A280
               have H' := Aside0.mk H
               clear H
               have p245 : 0 ≤ (0 : Int) := (by omega)
               have q245 : 0 < (l0.length : Int) := of_decide_eq_true (by first | (with_reducible assumption) | assumption)
               obtain ⟨ad245, e245, hx245_0⟩ := Kd.at_int HR0.out 0 p245 q245
               obtain rfl : ad239 = ad245 := (by injection e245)
               have qi245 : (0 < l0.length) = True := eq_true (by omega)
               (try rw [show ((0 : Int)).toNat = 0 from rfl] at hx245_0)
               (try rw [Addr.add_zero'] at hx245_0)
               have hn245_0 : ad239.block ≠ gb244 := Nat.ne_of_lt (Nat.lt_of_lt_of_le (by have := World.block_lt_of_cell? _ _ hx245_0; first | rwa [add_block] at this | exact this) GW244.out)
               have hn245_1 : ad239.block ≠ gb244 := Nat.ne_of_lt (Nat.lt_of_lt_of_le (by have := World.block_lt_of_cell? _ _ hx245_0; first | rwa [add_block] at this | exact this) GW244.out)
               have hn245_2 : ad239.block ≠ gb244 := Nat.ne_of_lt (Nat.lt_of_lt_of_le (by have := World.block_lt_of_cell? _ _ hx245_0; first | rwa [add_block] at this | exact this) GW244.out)
               have hn245_3 : ad239.block ≠ gb244 := Nat.ne_of_lt (Nat.lt_of_lt_of_le (by have := World.block_lt_of_cell? _ _ hx245_0; first | rwa [add_block] at this | exact this) GW244.out)
               have hn245_4 : ad239.block ≠ gb244 := Nat.ne_of_lt (Nat.lt_of_lt_of_le (by have := World.block_lt_of_cell? _ _ hx245_0; first | rwa [add_block] at this | exact this) GW244.out)
               replace hx245_0 := (HB.out.cell (World.block_lt_of_cell? w _ hx245_0)).trans hx245_0
               replace hx245_0 := (cell_far (p := ⟨gb244, 0, none⟩) (by first | (rw [add_block]; exact hn245_0) | (show (Addr.add _ _).block ≠ _; rw [add_block]; exact hn245_0) | exact hn245_0) (.int .i64 (wrap64 (rd l0 3)))).trans hx245_0
               replace hx245_0 := (cell_far (p := ⟨gb244, 1, none⟩) (by first | (rw [add_block]; exact hn245_1) | (show (Addr.add _ _).block ≠ _; rw [add_block]; exact hn245_1) | exact hn245_1) (.int .i64 (wrap64 (rd l0 4)))).trans hx245_0
               replace hx245_0 := (cell_far (p := ⟨gb244, 2, none⟩) (by first | (rw [add_block]; exact hn245_2) | (show (Addr.add _ _).block ≠ _; rw [add_block]; exact hn245_2) | exact hn245_2) (.int .i64 (wrap64 (rd l0 5)))).trans hx245_0
               replace hx245_0 := (cell_far (p := ⟨gb244, 3, none⟩) (by first | (rw [add_block]; exact hn245_3) | (show (Addr.add _ _).block ≠ _; rw [add_block]; exact hn245_3) | exact hn245_3) (.int .i64 (wrap64 (rd l0 6)))).trans hx245_0
               replace hx245_0 := (cell_far (p := ⟨gb244, 4, none⟩) (by first | (rw [add_block]; exact hn245_4) | (show (Addr.add _ _).block ≠ _; rw [add_block]; exact hn245_4) | exact hn245_4) (.int .i64 (wrap64 (rd l0 7)))).trans hx245_0
               clear hn245_0
               clear hn245_1
               clear hn245_2
               clear hn245_3
               clear hn245_4
               replace p245 := eq_true p245
               replace q245 := eq_true q245
               have p246 : 0 ≤ (1 : Int) := (by omega)
               have q246 : 1 < (l0.length : Int) := of_decide_eq_true (by first | (with_reducible assumption) | assumption)
               obtain ⟨ad246, e246, hx246_0⟩ := Kd.at_int HR0.out 1 p246 q246
               obtain rfl : ad239 = ad246 := (by injection e246)
               (try simp only [show (1 : Int).toNat = 1 from rfl, Nat.reduceMul, Nat.reduceEqDiff, Go.Addr.add, ↓reduceIte] at hx246_0)
               have qi246 : (1 < l0.length) = True := eq_true (by omega)
               (try rw [show ((1 : Int)).toNat = 1 from rfl] at hx246_0)
               have hn246_0 : ad239.block ≠ gb244 := Nat.ne_of_lt (Nat.lt_of_lt_of_le (by have := World.block_lt_of_cell? _ _ hx246_0; first | rwa [add_block] at this | exact this) GW244.out)
               have hn246_1 : ad239.block ≠ gb244 := Nat.ne_of_lt (Nat.lt_of_lt_of_le (by have := World.block_lt_of_cell? _ _ hx246_0; first | rwa [add_block] at this | exact this) GW244.out)
               have hn246_2 : ad239.block ≠ gb244 := Nat.ne_of_lt (Nat.lt_of_lt_of_le (by have := World.block_lt_of_cell? _ _ hx246_0; first | rwa [add_block] at this | exact this) GW244.out)
               have hn246_3 : ad239.block ≠ gb244 := Nat.ne_of_lt (Nat.lt_of_lt_of_le (by have := World.block_lt_of_cell? _ _ hx246_0; first | rwa [add_block] at this | exact this) GW244.out)
               have hn246_4 : ad239.block ≠ gb244 := Nat.ne_of_lt (Nat.lt_of_lt_of_le (by have := World.block_lt_of_cell? _ _ hx246_0; first | rwa [add_block] at this | exact this) GW244.out)
               replace hx246_0 := (HB.out.cell (World.block_lt_of_cell? w _ hx246_0)).trans hx246_0
               replace hx246_0 := (cell_far (p := ⟨gb244, 0, none⟩) (by first | (rw [add_block]; exact hn246_0) | (show (Addr.add _ _).block ≠ _; rw [add_block]; exact hn246_0) | exact hn246_0) (.int .i64 (wrap64 (rd l0 3)))).trans hx246_0
               replace hx246_0 := (cell_far (p := ⟨gb244, 1, none⟩) (by first | (rw [add_block]; exact hn246_1) | (show (Addr.add _ _).block ≠ _; rw [add_block]; exact hn246_1) | exact hn246_1) (.int .i64 (wrap64 (rd l0 4)))).trans hx246_0
               replace hx246_0 := (cell_far (p := ⟨gb244, 2, none⟩) (by first | (rw [add_block]; exact hn246_2) | (show (Addr.add _ _).block ≠ _; rw [add_block]; exact hn246_2) | exact hn246_2) (.int .i64 (wrap64 (rd l0 5)))).trans hx246_0
               replace hx246_0 := (cell_far (p := ⟨gb244, 3, none⟩) (by first | (rw [add_block]; exact hn246_3) | (show (Addr.add _ _).block ≠ _; rw [add_block]; exact hn246_3) | exact hn246_3) (.int .i64 (wrap64 (rd l0 6)))).trans hx246_0
               replace hx246_0 := (cell_far (p := ⟨gb244, 4, none⟩) (by first | (rw [add_block]; exact hn246_4) | (show (Addr.add _ _).block ≠ _; rw [add_block]; exact hn246_4) | exact hn246_4) (.int .i64 (wrap64 (rd l0 7)))).trans hx246_0
               clear hn246_0
               clear hn246_1
               clear hn246_2
               clear hn246_3
               clear hn246_4
               replace p246 := eq_true p246
               replace q246 := eq_true q246
               have p247 : 0 ≤ (2 : Int) := (by omega)
               have q247 : 2 < (l0.length : Int) := of_decide_eq_true (by first | (with_reducible assumption) | assumption)
               obtain ⟨ad247, e247, hx247_0⟩ := Kd.at_int HR0.out 2 p247 q247
               obtain rfl : ad239 = ad247 := (by injection e247)
               (try simp only [show (2 : Int).toNat = 2 from rfl, Nat.reduceMul, Nat.reduceEqDiff, Go.Addr.add, ↓reduceIte] at hx247_0)
               have qi247 : (2 < l0.length) = True := eq_true (by omega)
               (try rw [show ((2 : Int)).toNat = 2 from rfl] at hx247_0)
               have hn247_0 : ad239.block ≠ gb244 := Nat.ne_of_lt (Nat.lt_of_lt_of_le (by have := World.block_lt_of_cell? _ _ hx247_0; first | rwa [add_block] at this | exact this) GW244.out)
               have hn247_1 : ad239.block ≠ gb244 := Nat.ne_of_lt (Nat.lt_of_lt_of_le (by have := World.block_lt_of_cell? _ _ hx247_0; first | rwa [add_block] at this | exact this) GW244.out)
               have hn247_2 : ad239.block ≠ gb244 := Nat.ne_of_lt (Nat.lt_of_lt_of_le (by have := World.block_lt_of_cell? _ _ hx247_0; first | rwa [add_block] at this | exact this) GW244.out)
               have hn247_3 : ad239.block ≠ gb244 := Nat.ne_of_lt (Nat.lt_of_lt_of_le (by have := World.block_lt_of_cell? _ _ hx247_0; first | rwa [add_block] at this | exact this) GW244.out)
               have hn247_4 : ad239.block ≠ gb244 := Nat.ne_of_lt (Nat.lt_of_lt_of_le (by have := World.block_lt_of_cell? _ _ hx247_0; first | rwa [add_block] at this | exact this) GW244.out)
               replace hx247_0 := (HB.out.cell (World.block_lt_of_cell? w _ hx247_0)).trans hx247_0
               replace hx247_0 := (cell_far (p := ⟨gb244, 0, none⟩) (by first | (rw [add_block]; exact hn247_0) | (show (Addr.add _ _).block ≠ _; rw [add_block]; exact hn247_0) | exact hn247_0) (.int .i64 (wrap64 (rd l0 3)))).trans hx247_0
               replace hx247_0 := (cell_far (p := ⟨gb244, 1, none⟩) (by first | (rw [add_block]; exact hn247_1) | (show (Addr.add _ _).block ≠ _; rw [add_block]; exact hn247_1) | exact hn247_1) (.int .i64 (wrap64 (rd l0 4)))).trans hx247_0
               replace hx247_0 := (cell_far (p := ⟨gb244, 2, none⟩) (by first | (rw [add_block]; exact hn247_2) | (show (Addr.add _ _).block ≠ _; rw [add_block]; exact hn247_2) | exact hn247_2) (.int .i64 (wrap64 (rd l0 5)))).trans hx247_0
               replace hx247_0 := (cell_far (p := ⟨gb244, 3, none⟩) (by first | (rw [add_block]; exact hn247_3) | (show (Addr.add _ _).block ≠ _; rw [add_block]; exact hn247_3) | exact hn247_3) (.int .i64 (wrap64 (rd l0 6)))).trans hx247_0
               replace hx247_0 := (cell_far (p := ⟨gb244, 4, none⟩) (by first | (rw [add_block]; exact hn247_4) | (show (Addr.add _ _).block ≠ _; rw [add_block]; exact hn247_4) | exact hn247_4) (.int .i64 (wrap64 (rd l0 7)))).trans hx247_0
               clear hn247_0
               clear hn247_1
               clear hn247_2
               clear hn247_3
               clear hn247_4
               replace p247 := eq_true p247
               replace q247 := eq_true q247
               have hnb29 := NB244_238.out
               have hnc29 := NB238_244.out
               have hcz30_0 : w16.cell? ⟨gb244, 0, none⟩ = some (.int .i64 0) := (blk_cell BK244.out 0).trans rfl
               have hcz30_1 : w16.cell? ⟨gb244, 1, none⟩ = some (.int .i64 0) := (blk_cell BK244.out 1).trans rfl
               have hcz30_2 : w16.cell? ⟨gb244, 2, none⟩ = some (.int .i64 0) := (blk_cell BK244.out 2).trans rfl
               have hcz30_3 : w16.cell? ⟨gb244, 3, none⟩ = some (.int .i64 0) := (blk_cell BK244.out 3).trans rfl
               have hcz30_4 : w16.cell? ⟨gb244, 4, none⟩ = some (.int .i64 0) := (blk_cell BK244.out 4).trans rfl
               have hfz30_0 := blk_frozen BK244.out 0
               have hfz30_1 := blk_frozen BK244.out 1
               have hfz30_2 := blk_frozen BK244.out 2
               have hfz30_3 := blk_frozen BK244.out 3
               have hfz30_4 := blk_frozen BK244.out 4
               go_wp2_with (first | (go_at_call 10; (with_reducible refine (ringroadref26_Setup.calls (wrap64 (rd l0 3)) (wrap64 (rd l0 4)) (wrap64 (rd l0 5)) (wrap64 (rd l0 6)) (wrap64 (rd l0 7)) t248 _ A28.out).mono ?_); rintro e w31 ⟨rfl, hb⟩; have n0_ := Aside0.mk (blk_below (g := gb238) (o := .cells #[.int .i64 0, .int .i64 0, .int .i64 0, .int .i64 0, .int .i64 0] 23 (0, 0)) (by (with_reducible repeat (first | refine blk_drewN ?_ _ | refine blk_drew ?_ | refine blk_alloc ?_ _)); refine blk_far ?_ NB238_244.out _; (with_reducible repeat (first | refine blk_drewN ?_ _ | refine blk_drew ?_ | refine blk_alloc ?_ _)); refine blk_far ?_ NB238_244.out _; (with_reducible repeat (first | refine blk_drewN ?_ _ | refine blk_drew ?_ | refine blk_alloc ?_ _)); refine blk_far ?_ NB238_244.out _; (with_reducible repeat (first | refine blk_drewN ?_ _ | refine blk_drew ?_ | refine blk_alloc ?_ _)); refine blk_far ?_ NB238_244.out _; (with_reducible repeat (first | refine blk_drewN ?_ _ | refine blk_drew ?_ | refine blk_alloc ?_ _)); refine blk_far ?_ NB238_244.out _; (with_reducible repeat (first | refine blk_drewN ?_ _ | refine blk_drew ?_ | refine blk_alloc ?_ _)); exact BK238.out) hb); have n1_ := Aside0.mk (blk_below (g := gb244) (o := .cells #[.int .i64 (wrap64 (rd l0 3)), .int .i64 (wrap64 (rd l0 4)), .int .i64 (wrap64 (rd l0 5)), .int .i64 (wrap64 (rd l0 6)), .int .i64 (wrap64 (rd l0 7))] 23 (0, 0)) (by (with_reducible repeat (first | refine blk_drewN ?_ _ | refine blk_drew ?_ | refine blk_alloc ?_ _)); refine blk_put (cs := #[.int .i64 (wrap64 (rd l0 3)), .int .i64 (wrap64 (rd l0 4)), .int .i64 (wrap64 (rd l0 5)), .int .i64 (wrap64 (rd l0 6)), .int .i64 0]) ?_ 4 _ rfl; (with_reducible repeat (first | refine blk_drewN ?_ _ | refine blk_drew ?_ | refine blk_alloc ?_ _)); refine blk_put (cs := #[.int .i64 (wrap64 (rd l0 3)), .int .i64 (wrap64 (rd l0 4)), .int .i64 (wrap64 (rd l0 5)), .int .i64 0, .int .i64 0]) ?_ 3 _ rfl; (with_reducible repeat (first | refine blk_drewN ?_ _ | refine blk_drew ?_ | refine blk_alloc ?_ _)); refine blk_put (cs := #[.int .i64 (wrap64 (rd l0 3)), .int .i64 (wrap64 (rd l0 4)), .int .i64 0, .int .i64 0, .int .i64 0]) ?_ 2 _ rfl; (with_reducible repeat (first | refine blk_drewN ?_ _ | refine blk_drew ?_ | refine blk_alloc ?_ _)); refine blk_put (cs := #[.int .i64 (wrap64 (rd l0 3)), .int .i64 0, .int .i64 0, .int .i64 0, .int .i64 0]) ?_ 1 _ rfl; (with_reducible repeat (first | refine blk_drewN ?_ _ | refine blk_drew ?_ | refine blk_alloc ?_ _)); refine blk_put (cs := #[.int .i64 0, .int .i64 0, .int .i64 0, .int .i64 0, .int .i64 0]) ?_ 0 _ rfl; (with_reducible repeat (first | refine blk_drewN ?_ _ | refine blk_drew ?_ | refine blk_alloc ?_ _)); exact BK244.out) hb); have n2_ := Aside0.mk (below_step (by repeat (first | (with_reducible first | exact HB.out | apply below_alloc | apply pw_below_drewN | apply below_drew1 | refine below_set ?_ GE238.out | refine below_set ?_ GE244.out) | exact HB.out)) hb); clear BK238; clear BK244; clear HB; have BK238 := n0_; have BK244 := n1_; have HB := n2_; clear n0_ n1_ n2_; (try clear hb); (try clear hb2); (try clear hk); (try clear hi)))
               go_meet
               case rel => exact ⟨_, (!t248), (by first | rfl | (simp; done) | (simp [*]; done)), H', ⟨by first | omega | exact Nat.le_refl _⟩, ⟨by (with_reducible repeat (first | refine blk_drewN ?_ _ | refine blk_drew ?_ | refine blk_alloc ?_ _)); exact BK238.out⟩, ⟨by (with_reducible repeat (first | refine blk_drewN ?_ _ | refine blk_drew ?_ | refine blk_alloc ?_ _)); exact BK244.out⟩, ⟨by repeat (first | (with_reducible first | exact HB.out | apply below_alloc | apply pw_below_drewN | apply below_drew1 | refine below_set ?_ GE238.out | refine below_set ?_ GE244.out) | exact HB.out)⟩⟩
              ·
               rw [if_neg c27] at H
               have c27b0 : ((rd l0 2) == 1) = false := beq_eq_false_iff_ne.mpr c27
               have c27b1 : ((rd l0 2) != 1) = true := bne_iff_ne.mpr c27
               have H' := Aside0.mk H
               clear H
               have p245 : 0 ≤ (0 : Int) := (by omega)
               have q245 : 0 < (l0.length : Int) := of_decide_eq_true (by first | (with_reducible assumption) | assumption)
               obtain ⟨ad245, e245, hx245_0⟩ := Kd.at_int HR0.out 0 p245 q245
               obtain rfl : ad239 = ad245 := (by injection e245)
               have qi245 : (0 < l0.length) = True := eq_true (by omega)
               (try rw [show ((0 : Int)).toNat = 0 from rfl] at hx245_0)
               (try rw [Addr.add_zero'] at hx245_0)
               have hn245_0 : ad239.block ≠ gb244 := Nat.ne_of_lt (Nat.lt_of_lt_of_le (by have := World.block_lt_of_cell? _ _ hx245_0; first | rwa [add_block] at this | exact this) GW244.out)
               have hn245_1 : ad239.block ≠ gb244 := Nat.ne_of_lt (Nat.lt_of_lt_of_le (by have := World.block_lt_of_cell? _ _ hx245_0; first | rwa [add_block] at this | exact this) GW244.out)
               have hn245_2 : ad239.block ≠ gb244 := Nat.ne_of_lt (Nat.lt_of_lt_of_le (by have := World.block_lt_of_cell? _ _ hx245_0; first | rwa [add_block] at this | exact this) GW244.out)
               have hn245_3 : ad239.block ≠ gb244 := Nat.ne_of_lt (Nat.lt_of_lt_of_le (by have := World.block_lt_of_cell? _ _ hx245_0; first | rwa [add_block] at this | exact this) GW244.out)
               have hn245_4 : ad239.block ≠ gb244 := Nat.ne_of_lt (Nat.lt_of_lt_of_le (by have := World.block_lt_of_cell? _ _ hx245_0; first | rwa [add_block] at this | exact this) GW244.out)
               replace hx245_0 := (HB.out.cell (World.block_lt_of_cell? w _ hx245_0)).trans hx245_0
               replace hx245_0 := (cell_far (p := ⟨gb244, 0, none⟩) (by first | (rw [add_block]; exact hn245_0) | (show (Addr.add _ _).block ≠ _; rw [add_block]; exact hn245_0) | exact hn245_0) (.int .i64 (wrap64 (rd l0 3)))).trans hx245_0
               replace hx245_0 := (cell_far (p := ⟨gb244, 1, none⟩) (by first | (rw [add_block]; exact hn245_1) | (show (Addr.add _ _).block ≠ _; rw [add_block]; exact hn245_1) | exact hn245_1) (.int .i64 (wrap64 (rd l0 4)))).trans hx245_0
               replace hx245_0 := (cell_far (p := ⟨gb244, 2, none⟩) (by first | (rw [add_block]; exact hn245_2) | (show (Addr.add _ _).block ≠ _; rw [add_block]; exact hn245_2) | exact hn245_2) (.int .i64 (wrap64 (rd l0 5)))).trans hx245_0
               replace hx245_0 := (cell_far (p := ⟨gb244, 3, none⟩) (by first | (rw [add_block]; exact hn245_3) | (show (Addr.add _ _).block ≠ _; rw [add_block]; exact hn245_3) | exact hn245_3) (.int .i64 (wrap64 (rd l0 6)))).trans hx245_0
               replace hx245_0 := (cell_far (p := ⟨gb244, 4, none⟩) (by first | (rw [add_block]; exact hn245_4) | (show (Addr.add _ _).block ≠ _; rw [add_block]; exact hn245_4) | exact hn245_4) (.int .i64 (wrap64 (rd l0 7)))).trans hx245_0
               clear hn245_0
               clear hn245_1
               clear hn245_2
               clear hn245_3
               clear hn245_4
               replace p245 := eq_true p245
               replace q245 := eq_true q245
               have p246 : 0 ≤ (1 : Int) := (by omega)
               have q246 : 1 < (l0.length : Int) := of_decide_eq_true (by first | (with_reducible assumption) | assumption)
               obtain ⟨ad246, e246, hx246_0⟩ := Kd.at_int HR0.out 1 p246 q246
               obtain rfl : ad239 = ad246 := (by injection e246)
               (try simp only [show (1 : Int).toNat = 1 from rfl, Nat.reduceMul, Nat.reduceEqDiff, Go.Addr.add, ↓reduceIte] at hx246_0)
               have qi246 : (1 < l0.length) = True := eq_true (by omega)
               (try rw [show ((1 : Int)).toNat = 1 from rfl] at hx246_0)
               have hn246_0 : ad239.block ≠ gb244 := Nat.ne_of_lt (Nat.lt_of_lt_of_le (by have := World.block_lt_of_cell? _ _ hx246_0; first | rwa [add_block] at this | exact this) GW244.out)
               have hn246_1 : ad239.block ≠ gb244 := Nat.ne_of_lt (Nat.lt_of_lt_of_le (by have := World.block_lt_of_cell? _ _ hx246_0; first | rwa [add_block] at this | exact this) GW244.out)
               have hn246_2 : ad239.block ≠ gb244 := Nat.ne_of_lt (Nat.lt_of_lt_of_le (by have := World.block_lt_of_cell? _ _ hx246_0; first | rwa [add_block] at this | exact this) GW244.out)
               have hn246_3 : ad239.block ≠ gb244 := Nat.ne_of_lt (Nat.lt_of_lt_of_le (by have := World.block_lt_of_cell? _ _ hx246_0; first | rwa [add_block] at this | exact this) GW244.out)
               have hn246_4 : ad239.block ≠ gb244 := Nat.ne_of_lt (Nat.lt_of_lt_of_le (by have := World.block_lt_of_cell? _ _ hx246_0; first | rwa [add_block] at this | exact this) GW244.out)
               replace hx246_0 := (HB.out.cell (World.block_lt_of_cell? w _ hx246_0)).trans hx246_0
               replace hx246_0 := (cell_far (p := ⟨gb244, 0, none⟩) (by first | (rw [add_block]; exact hn246_0) | (show (Addr.add _ _).block ≠ _; rw [add_block]; exact hn246_0) | exact hn246_0) (.int .i64 (wrap64 (rd l0 3)))).trans hx246_0
               replace hx246_0 := (cell_far (p := ⟨gb244, 1, none⟩) (by first | (rw [add_block]; exact hn246_1) | (show (Addr.add _ _).block ≠ _; rw [add_block]; exact hn246_1) | exact hn246_1) (.int .i64 (wrap64 (rd l0 4)))).trans hx246_0
               replace hx246_0 := (cell_far (p := ⟨gb244, 2, none⟩) (by first | (rw [add_block]; exact hn246_2) | (show (Addr.add _ _).block ≠ _; rw [add_block]; exact hn246_2) | exact hn246_2) (.int .i64 (wrap64 (rd l0 5)))).trans hx246_0
               replace hx246_0 := (cell_far (p := ⟨gb244, 3, none⟩) (by first | (rw [add_block]; exact hn246_3) | (show (Addr.add _ _).block ≠ _; rw [add_block]; exact hn246_3) | exact hn246_3) (.int .i64 (wrap64 (rd l0 6)))).trans hx246_0
               replace hx246_0 := (cell_far (p := ⟨gb244, 4, none⟩) (by first | (rw [add_block]; exact hn246_4) | (show (Addr.add _ _).block ≠ _; rw [add_block]; exact hn246_4) | exact hn246_4) (.int .i64 (wrap64 (rd l0 7)))).trans hx246_0
               clear hn246_0
               clear hn246_1
               clear hn246_2
               clear hn246_3
               clear hn246_4
               replace p246 := eq_true p246
               replace q246 := eq_true q246
               have p247 : 0 ≤ (2 : Int) := (by omega)
               have q247 : 2 < (l0.length : Int) := of_decide_eq_true (by first | (with_reducible assumption) | assumption)
               obtain ⟨ad247, e247, hx247_0⟩ := Kd.at_int HR0.out 2 p247 q247
               obtain rfl : ad239 = ad247 := (by injection e247)
               (try simp only [show (2 : Int).toNat = 2 from rfl, Nat.reduceMul, Nat.reduceEqDiff, Go.Addr.add, ↓reduceIte] at hx247_0)
               have qi247 : (2 < l0.length) = True := eq_true (by omega)
               (try rw [show ((2 : Int)).toNat = 2 from rfl] at hx247_0)
               have hn247_0 : ad239.block ≠ gb244 := Nat.ne_of_lt (Nat.lt_of_lt_of_le (by have := World.block_lt_of_cell? _ _ hx247_0; first | rwa [add_block] at this | exact this) GW244.out)
               have hn247_1 : ad239.block ≠ gb244 := Nat.ne_of_lt (Nat.lt_of_lt_of_le (by have := World.block_lt_of_cell? _ _ hx247_0; first | rwa [add_block] at this | exact this) GW244.out)
               have hn247_2 : ad239.block ≠ gb244 := Nat.ne_of_lt (Nat.lt_of_lt_of_le (by have := World.block_lt_of_cell? _ _ hx247_0; first | rwa [add_block] at this | exact this) GW244.out)
               have hn247_3 : ad239.block ≠ gb244 := Nat.ne_of_lt (Nat.lt_of_lt_of_le (by have := World.block_lt_of_cell? _ _ hx247_0; first | rwa [add_block] at this | exact this) GW244.out)
               have hn247_4 : ad239.block ≠ gb244 := Nat.ne_of_lt (Nat.lt_of_lt_of_le (by have := World.block_lt_of_cell? _ _ hx247_0; first | rwa [add_block] at this | exact this) GW244.out)
               replace hx247_0 := (HB.out.cell (World.block_lt_of_cell? w _ hx247_0)).trans hx247_0
               replace hx247_0 := (cell_far (p := ⟨gb244, 0, none⟩) (by first | (rw [add_block]; exact hn247_0) | (show (Addr.add _ _).block ≠ _; rw [add_block]; exact hn247_0) | exact hn247_0) (.int .i64 (wrap64 (rd l0 3)))).trans hx247_0
               replace hx247_0 := (cell_far (p := ⟨gb244, 1, none⟩) (by first | (rw [add_block]; exact hn247_1) | (show (Addr.add _ _).block ≠ _; rw [add_block]; exact hn247_1) | exact hn247_1) (.int .i64 (wrap64 (rd l0 4)))).trans hx247_0
               replace hx247_0 := (cell_far (p := ⟨gb244, 2, none⟩) (by first | (rw [add_block]; exact hn247_2) | (show (Addr.add _ _).block ≠ _; rw [add_block]; exact hn247_2) | exact hn247_2) (.int .i64 (wrap64 (rd l0 5)))).trans hx247_0
               replace hx247_0 := (cell_far (p := ⟨gb244, 3, none⟩) (by first | (rw [add_block]; exact hn247_3) | (show (Addr.add _ _).block ≠ _; rw [add_block]; exact hn247_3) | exact hn247_3) (.int .i64 (wrap64 (rd l0 6)))).trans hx247_0
               replace hx247_0 := (cell_far (p := ⟨gb244, 4, none⟩) (by first | (rw [add_block]; exact hn247_4) | (show (Addr.add _ _).block ≠ _; rw [add_block]; exact hn247_4) | exact hn247_4) (.int .i64 (wrap64 (rd l0 7)))).trans hx247_0
               clear hn247_0
               clear hn247_1
               clear hn247_2
               clear hn247_3
               clear hn247_4
               replace p247 := eq_true p247
               replace q247 := eq_true q247
               go_wp2
               go_meet
               case rel => exact ⟨_, (true), (by first | rfl | (simp; done) | (simp [*]; done)), H', ⟨by first | omega | exact Nat.le_refl _⟩, ⟨by (with_reducible repeat (first | refine blk_drewN ?_ _ | refine blk_drew ?_ | refine blk_alloc ?_ _)); refine blk_far ?_ NB238_244.out _; (with_reducible repeat (first | refine blk_drewN ?_ _ | refine blk_drew ?_ | refine blk_alloc ?_ _)); refine blk_far ?_ NB238_244.out _; (with_reducible repeat (first | refine blk_drewN ?_ _ | refine blk_drew ?_ | refine blk_alloc ?_ _)); refine blk_far ?_ NB238_244.out _; (with_reducible repeat (first | refine blk_drewN ?_ _ | refine blk_drew ?_ | refine blk_alloc ?_ _)); refine blk_far ?_ NB238_244.out _; (with_reducible repeat (first | refine blk_drewN ?_ _ | refine blk_drew ?_ | refine blk_alloc ?_ _)); refine blk_far ?_ NB238_244.out _; (with_reducible repeat (first | refine blk_drewN ?_ _ | refine blk_drew ?_ | refine blk_alloc ?_ _)); exact BK238.out⟩, ⟨by (with_reducible repeat (first | refine blk_drewN ?_ _ | refine blk_drew ?_ | refine blk_alloc ?_ _)); refine blk_put (cs := #[.int .i64 (wrap64 (rd l0 3)), .int .i64 (wrap64 (rd l0 4)), .int .i64 (wrap64 (rd l0 5)), .int .i64 (wrap64 (rd l0 6)), .int .i64 0]) ?_ 4 _ rfl; (with_reducible repeat (first | refine blk_drewN ?_ _ | refine blk_drew ?_ | refine blk_alloc ?_ _)); refine blk_put (cs := #[.int .i64 (wrap64 (rd l0 3)), .int .i64 (wrap64 (rd l0 4)), .int .i64 (wrap64 (rd l0 5)), .int .i64 0, .int .i64 0]) ?_ 3 _ rfl; (with_reducible repeat (first | refine blk_drewN ?_ _ | refine blk_drew ?_ | refine blk_alloc ?_ _)); refine blk_put (cs := #[.int .i64 (wrap64 (rd l0 3)), .int .i64 (wrap64 (rd l0 4)), .int .i64 0, .int .i64 0, .int .i64 0]) ?_ 2 _ rfl; (with_reducible repeat (first | refine blk_drewN ?_ _ | refine blk_drew ?_ | refine blk_alloc ?_ _)); refine blk_put (cs := #[.int .i64 (wrap64 (rd l0 3)), .int .i64 0, .int .i64 0, .int .i64 0, .int .i64 0]) ?_ 1 _ rfl; (with_reducible repeat (first | refine blk_drewN ?_ _ | refine blk_drew ?_ | refine blk_alloc ?_ _)); refine blk_put (cs := #[.int .i64 0, .int .i64 0, .int .i64 0, .int .i64 0, .int .i64 0]) ?_ 0 _ rfl; (with_reducible repeat (first | refine blk_drewN ?_ _ | refine blk_drew ?_ | refine blk_alloc ?_ _)); exact BK244.out⟩, ⟨by repeat (first | (with_reducible first | exact HB.out | apply below_alloc | apply pw_below_drewN | apply below_drew1 | refine below_set ?_ GE238.out | refine below_set ?_ GE244.out) | exact HB.out)⟩⟩
             ·
              rw [if_neg c26] at H
              exact absurd H (by simp)
            ·
             rw [if_neg c25] at H
             have c25b0 : ((rd l0 1) == 82) = false := beq_eq_false_iff_ne.mpr c25
             have c25b1 : ((rd l0 1) != 82) = true := bne_iff_ne.mpr c25
             have H' := Aside0.mk H
             clear H
             have p245 : 0 ≤ (0 : Int) := (by omega)
             have q245 : 0 < (l0.length : Int) := of_decide_eq_true (by first | (with_reducible assumption) | assumption)
             obtain ⟨ad245, e245, hx245_0⟩ := Kd.at_int HR0.out 0 p245 q245
             obtain rfl : ad239 = ad245 := (by injection e245)
             have qi245 : (0 < l0.length) = True := eq_true (by omega)
             (try rw [show ((0 : Int)).toNat = 0 from rfl] at hx245_0)
             (try rw [Addr.add_zero'] at hx245_0)
             have hn245_0 : ad239.block ≠ gb244 := Nat.ne_of_lt (Nat.lt_of_lt_of_le (by have := World.block_lt_of_cell? _ _ hx245_0; first | rwa [add_block] at this | exact this) GW244.out)
             have hn245_1 : ad239.block ≠ gb244 := Nat.ne_of_lt (Nat.lt_of_lt_of_le (by have := World.block_lt_of_cell? _ _ hx245_0; first | rwa [add_block] at this | exact this) GW244.out)
             have hn245_2 : ad239.block ≠ gb244 := Nat.ne_of_lt (Nat.lt_of_lt_of_le (by have := World.block_lt_of_cell? _ _ hx245_0; first | rwa [add_block] at this | exact this) GW244.out)
             have hn245_3 : ad239.block ≠ gb244 := Nat.ne_of_lt (Nat.lt_of_lt_of_le (by have := World.block_lt_of_cell? _ _ hx245_0; first | rwa [add_block] at this | exact this) GW244.out)
             have hn245_4 : ad239.block ≠ gb244 := Nat.ne_of_lt (Nat.lt_of_lt_of_le (by have := World.block_lt_of_cell? _ _ hx245_0; first | rwa [add_block] at this | exact this) GW244.out)
             replace hx245_0 := (HB.out.cell (World.block_lt_of_cell? w _ hx245_0)).trans hx245_0
             replace hx245_0 := (cell_far (p := ⟨gb244, 0, none⟩) (by first | (rw [add_block]; exact hn245_0) | (show (Addr.add _ _).block ≠ _; rw [add_block]; exact hn245_0) | exact hn245_0) (.int .i64 (wrap64 (rd l0 3)))).trans hx245_0
             replace hx245_0 := (cell_far (p := ⟨gb244, 1, none⟩) (by first | (rw [add_block]; exact hn245_1) | (show (Addr.add _ _).block ≠ _; rw [add_block]; exact hn245_1) | exact hn245_1) (.int .i64 (wrap64 (rd l0 4)))).trans hx245_0
             replace hx245_0 := (cell_far (p := ⟨gb244, 2, none⟩) (by first | (rw [add_block]; exact hn245_2) | (show (Addr.add _ _).block ≠ _; rw [add_block]; exact hn245_2) | exact hn245_2) (.int .i64 (wrap64 (rd l0 5)))).trans hx245_0
             replace hx245_0 := (cell_far (p := ⟨gb244, 3, none⟩) (by first | (rw [add_block]; exact hn245_3) | (show (Addr.add _ _).block ≠ _; rw [add_block]; exact hn245_3) | exact hn245_3) (.int .i64 (wrap64 (rd l0 6)))).trans hx245_0
             replace hx245_0 := (cell_far (p := ⟨gb244, 4, none⟩) (by first | (rw [add_block]; exact hn245_4) | (show (Addr.add _ _).block ≠ _; rw [add_block]; exact hn245_4) | exact hn245_4) (.int .i64 (wrap64 (rd l0 7)))).trans hx245_0
             clear hn245_0
             clear hn245_1
             clear hn245_2
             clear hn245_3
             clear hn245_4
             replace p245 := eq_true p245
             replace q245 := eq_true q245
             have p246 : 0 ≤ (1 : Int) := (by omega)
             have q246 : 1 < (l0.length : Int) := of_decide_eq_true (by first | (with_reducible assumption) | assumption)
             obtain ⟨ad246, e246, hx246_0⟩ := Kd.at_int HR0.out 1 p246 q246
             obtain rfl : ad239 = ad246 := (by injection e246)
             (try simp only [show (1 : Int).toNat = 1 from rfl, Nat.reduceMul, Nat.reduceEqDiff, Go.Addr.add, ↓reduceIte] at hx246_0)
             have qi246 : (1 < l0.length) = True := eq_true (by omega)
             (try rw [show ((1 : Int)).toNat = 1 from rfl] at hx246_0)
             have hn246_0 : ad239.block ≠ gb244 := Nat.ne_of_lt (Nat.lt_of_lt_of_le (by have := World.block_lt_of_cell? _ _ hx246_0; first | rwa [add_block] at this | exact this) GW244.out)
             have hn246_1 : ad239.block ≠ gb244 := Nat.ne_of_lt (Nat.lt_of_lt_of_le (by have := World.block_lt_of_cell? _ _ hx246_0; first | rwa [add_block] at this | exact this) GW244.out)
             have hn246_2 : ad239.block ≠ gb244 := Nat.ne_of_lt (Nat.lt_of_lt_of_le (by have := World.block_lt_of_cell? _ _ hx246_0; first | rwa [add_block] at this | exact this) GW244.out)
             have hn246_3 : ad239.block ≠ gb244 := Nat.ne_of_lt (Nat.lt_of_lt_of_le (by have := World.block_lt_of_cell? _ _ hx246_0; first | rwa [add_block] at this | exact this) GW244.out)
             have hn246_4 : ad239.block ≠ gb244 := Nat.ne_of_lt (Nat.lt_of_lt_of_le (by have := World.block_lt_of_cell? _ _ hx246_0; first | rwa [add_block] at this | exact this) GW244.out)
             replace hx246_0 := (HB.out.cell (World.block_lt_of_cell? w _ hx246_0)).trans hx246_0
             replace hx246_0 := (cell_far (p := ⟨gb244, 0, none⟩) (by first | (rw [add_block]; exact hn246_0) | (show (Addr.add _ _).block ≠ _; rw [add_block]; exact hn246_0) | exact hn246_0) (.int .i64 (wrap64 (rd l0 3)))).trans hx246_0
             replace hx246_0 := (cell_far (p := ⟨gb244, 1, none⟩) (by first | (rw [add_block]; exact hn246_1) | (show (Addr.add _ _).block ≠ _; rw [add_block]; exact hn246_1) | exact hn246_1) (.int .i64 (wrap64 (rd l0 4)))).trans hx246_0
             replace hx246_0 := (cell_far (p := ⟨gb244, 2, none⟩) (by first | (rw [add_block]; exact hn246_2) | (show (Addr.add _ _).block ≠ _; rw [add_block]; exact hn246_2) | exact hn246_2) (.int .i64 (wrap64 (rd l0 5)))).trans hx246_0
             replace hx246_0 := (cell_far (p := ⟨gb244, 3, none⟩) (by first | (rw [add_block]; exact hn246_3) | (show (Addr.add _ _).block ≠ _; rw [add_block]; exact hn246_3) | exact hn246_3) (.int .i64 (wrap64 (rd l0 6)))).trans hx246_0
             replace hx246_0 := (cell_far (p := ⟨gb244, 4, none⟩) (by first | (rw [add_block]; exact hn246_4) | (show (Addr.add _ _).block ≠ _; rw [add_block]; exact hn246_4) | exact hn246_4) (.int .i64 (wrap64 (rd l0 7)))).trans hx246_0
             clear hn246_0
             clear hn246_1
             clear hn246_2
             clear hn246_3
             clear hn246_4
             replace p246 := eq_true p246
             replace q246 := eq_true q246
             go_wp2
             go_meet
             case rel => exact ⟨_, (true), (by first | rfl | (simp; done) | (simp [*]; done)), H', ⟨by first | omega | exact Nat.le_refl _⟩, ⟨by (with_reducible repeat (first | refine blk_drewN ?_ _ | refine blk_drew ?_ | refine blk_alloc ?_ _)); refine blk_far ?_ NB238_244.out _; (with_reducible repeat (first | refine blk_drewN ?_ _ | refine blk_drew ?_ | refine blk_alloc ?_ _)); refine blk_far ?_ NB238_244.out _; (with_reducible repeat (first | refine blk_drewN ?_ _ | refine blk_drew ?_ | refine blk_alloc ?_ _)); refine blk_far ?_ NB238_244.out _; (with_reducible repeat (first | refine blk_drewN ?_ _ | refine blk_drew ?_ | refine blk_alloc ?_ _)); refine blk_far ?_ NB238_244.out _; (with_reducible repeat (first | refine blk_drewN ?_ _ | refine blk_drew ?_ | refine blk_alloc ?_ _)); refine blk_far ?_ NB238_244.out _; (with_reducible repeat (first | refine blk_drewN ?_ _ | refine blk_drew ?_ | refine blk_alloc ?_ _)); exact BK238.out⟩, ⟨by (with_reducible repeat (first | refine blk_drewN ?_ _ | refine blk_drew ?_ | refine blk_alloc ?_ _)); refine blk_put (cs := #[.int .i64 (wrap64 (rd l0 3)), .int .i64 (wrap64 (rd l0 4)), .int .i64 (wrap64 (rd l0 5)), .int .i64 (wrap64 (rd l0 6)), .int .i64 0]) ?_ 4 _ rfl; (with_reducible repeat (first | refine blk_drewN ?_ _ | refine blk_drew ?_ | refine blk_alloc ?_ _)); refine blk_put (cs := #[.int .i64 (wrap64 (rd l0 3)), .int .i64 (wrap64 (rd l0 4)), .int .i64 (wrap64 (rd l0 5)), .int .i64 0, .int .i64 0]) ?_ 3 _ rfl; (with_reducible repeat (first | refine blk_drewN ?_ _ | refine blk_drew ?_ | refine blk_alloc ?_ _)); refine blk_put (cs := #[.int .i64 (wrap64 (rd l0 3)), .int .i64 (wrap64 (rd l0 4)), .int .i64 0, .int .i64 0, .int .i64 0]) ?_ 2 _ rfl; (with_reducible repeat (first | refine blk_drewN ?_ _ | refine blk_drew ?_ | refine blk_alloc ?_ _)); refine blk_put (cs := #[.int .i64 (wrap64 (rd l0 3)), .int .i64 0, .int .i64 0, .int .i64 0, .int .i64 0]) ?_ 1 _ rfl; (with_reducible repeat (first | refine blk_drewN ?_ _ | refine blk_drew ?_ | refine blk_alloc ?_ _)); refine blk_put (cs := #[.int .i64 0, .int .i64 0, .int .i64 0, .int .i64 0, .int .i64 0]) ?_ 0 _ rfl; (with_reducible repeat (first | refine blk_drewN ?_ _ | refine blk_drew ?_ | refine blk_alloc ?_ _)); exact BK244.out⟩, ⟨by repeat (first | (with_reducible first | exact HB.out | apply below_alloc | apply pw_below_drewN | apply below_drew1 | refine below_set ?_ GE238.out | refine below_set ?_ GE244.out) | exact HB.out)⟩⟩
           ·
            rw [if_neg c24] at H
            exact absurd H (by simp)
          ·
           rw [if_neg c23] at H
           have c23b0 : ((rd l0 0) == 82) = false := beq_eq_false_iff_ne.mpr c23
           have c23b1 : ((rd l0 0) != 82) = true := bne_iff_ne.mpr c23
           have H' := Aside0.mk H
           clear H
           have p245 : 0 ≤ (0 : Int) := (by omega)
           have q245 : 0 < (l0.length : Int) := of_decide_eq_true (by first | (with_reducible assumption) | assumption)
           obtain ⟨ad245, e245, hx245_0⟩ := Kd.at_int HR0.out 0 p245 q245
           obtain rfl : ad239 = ad245 := (by injection e245)
           have qi245 : (0 < l0.length) = True := eq_true (by omega)
           (try rw [show ((0 : Int)).toNat = 0 from rfl] at hx245_0)
           (try rw [Addr.add_zero'] at hx245_0)
           have hn245_0 : ad239.block ≠ gb244 := Nat.ne_of_lt (Nat.lt_of_lt_of_le (by have := World.block_lt_of_cell? _ _ hx245_0; first | rwa [add_block] at this | exact this) GW244.out)
           have hn245_1 : ad239.block ≠ gb244 := Nat.ne_of_lt (Nat.lt_of_lt_of_le (by have := World.block_lt_of_cell? _ _ hx245_0; first | rwa [add_block] at this | exact this) GW244.out)
           have hn245_2 : ad239.block ≠ gb244 := Nat.ne_of_lt (Nat.lt_of_lt_of_le (by have := World.block_lt_of_cell? _ _ hx245_0; first | rwa [add_block] at this | exact this) GW244.out)
           have hn245_3 : ad239.block ≠ gb244 := Nat.ne_of_lt (Nat.lt_of_lt_of_le (by have := World.block_lt_of_cell? _ _ hx245_0; first | rwa [add_block] at this | exact this) GW244.out)
           have hn245_4 : ad239.block ≠ gb244 := Nat.ne_of_lt (Nat.lt_of_lt_of_le (by have := World.block_lt_of_cell? _ _ hx245_0; first | rwa [add_block] at this | exact this) GW244.out)
           replace hx245_0 := (HB.out.cell (World.block_lt_of_cell? w _ hx245_0)).trans hx245_0
           replace hx245_0 := (cell_far (p := ⟨gb244, 0, none⟩) (by first | (rw [add_block]; exact hn245_0) | (show (Addr.add _ _).block ≠ _; rw [add_block]; exact hn245_0) | exact hn245_0) (.int .i64 (wrap64 (rd l0 3)))).trans hx245_0
           replace hx245_0 := (cell_far (p := ⟨gb244, 1, none⟩) (by first | (rw [add_block]; exact hn245_1) | (show (Addr.add _ _).block ≠ _; rw [add_block]; exact hn245_1) | exact hn245_1) (.int .i64 (wrap64 (rd l0 4)))).trans hx245_0
           replace hx245_0 := (cell_far (p := ⟨gb244, 2, none⟩) (by first | (rw [add_block]; exact hn245_2) | (show (Addr.add _ _).block ≠ _; rw [add_block]; exact hn245_2) | exact hn245_2) (.int .i64 (wrap64 (rd l0 5)))).trans hx245_0
           replace hx245_0 := (cell_far (p := ⟨gb244, 3, none⟩) (by first | (rw [add_block]; exact hn245_3) | (show (Addr.add _ _).block ≠ _; rw [add_block]; exact hn245_3) | exact hn245_3) (.int .i64 (wrap64 (rd l0 6)))).trans hx245_0
           replace hx245_0 := (cell_far (p := ⟨gb244, 4, none⟩) (by first | (rw [add_block]; exact hn245_4) | (show (Addr.add _ _).block ≠ _; rw [add_block]; exact hn245_4) | exact hn245_4) (.int .i64 (wrap64 (rd l0 7)))).trans hx245_0
           clear hn245_0
           clear hn245_1
           clear hn245_2
           clear hn245_3
           clear hn245_4
           replace p245 := eq_true p245
           replace q245 := eq_true q245
           go_wp2
           go_meet
           case rel => exact ⟨_, (true), (by first | rfl | (simp; done) | (simp [*]; done)), H', ⟨by first | omega | exact Nat.le_refl _⟩, ⟨by (with_reducible repeat (first | refine blk_drewN ?_ _ | refine blk_drew ?_ | refine blk_alloc ?_ _)); refine blk_far ?_ NB238_244.out _; (with_reducible repeat (first | refine blk_drewN ?_ _ | refine blk_drew ?_ | refine blk_alloc ?_ _)); refine blk_far ?_ NB238_244.out _; (with_reducible repeat (first | refine blk_drewN ?_ _ | refine blk_drew ?_ | refine blk_alloc ?_ _)); refine blk_far ?_ NB238_244.out _; (with_reducible repeat (first | refine blk_drewN ?_ _ | refine blk_drew ?_ | refine blk_alloc ?_ _)); refine blk_far ?_ NB238_244.out _; (with_reducible repeat (first | refine blk_drewN ?_ _ | refine blk_drew ?_ | refine blk_alloc ?_ _)); refine blk_far ?_ NB238_244.out _; (with_reducible repeat (first | refine blk_drewN ?_ _ | refine blk_drew ?_ | refine blk_alloc ?_ _)); exact BK238.out⟩, ⟨by (with_reducible repeat (first | refine blk_drewN ?_ _ | refine blk_drew ?_ | refine blk_alloc ?_ _)); refine blk_put (cs := #[.int .i64 (wrap64 (rd l0 3)), .int .i64 (wrap64 (rd l0 4)), .int .i64 (wrap64 (rd l0 5)), .int .i64 (wrap64 (rd l0 6)), .int .i64 0]) ?_ 4 _ rfl; (with_reducible repeat (first | refine blk_drewN ?_ _ | refine blk_drew ?_ | refine blk_alloc ?_ _)); refine blk_put (cs := #[.int .i64 (wrap64 (rd l0 3)), .int .i64 (wrap64 (rd l0 4)), .int .i64 (wrap64 (rd l0 5)), .int .i64 0, .int .i64 0]) ?_ 3 _ rfl; (with_reducible repeat (first | refine blk_drewN ?_ _ | refine blk_drew ?_ | refine blk_alloc ?_ _)); refine blk_put (cs := #[.int .i64 (wrap64 (rd l0 3)), .int .i64 (wrap64 (rd l0 4)), .int .i64 0, .int .i64 0, .int .i64 0]) ?_ 2 _ rfl; (with_reducible repeat (first | refine blk_drewN ?_ _ | refine blk_drew ?_ | refine blk_alloc ?_ _)); refine blk_put (cs := #[.int .i64 (wrap64 (rd l0 3)), .int .i64 0, .int .i64 0, .int .i64 0, .int .i64 0]) ?_ 1 _ rfl; (with_reducible repeat (first | refine blk_drewN ?_ _ | refine blk_drew ?_ | refine blk_alloc ?_ _)); refine blk_put (cs := #[.int .i64 0, .int .i64 0, .int .i64 0, .int .i64 0, .int .i64 0]) ?_ 0 _ rfl; (with_reducible repeat (first | refine blk_drewN ?_ _ | refine blk_drew ?_ | refine blk_alloc ?_ _)); exact BK244.out⟩, ⟨by repeat (first | (with_reducible first | exact HB.out | apply below_alloc | apply pw_below_drewN | apply below_drew1 | refine below_set ?_ GE238.out | refine below_set ?_ GE244.out) | exact HB.out)⟩⟩
         ·
          rw [if_neg c22] at H
          exact absurd H (by simp)
        case rest =>
         clear HC13
         try clear c2
         try clear p2
         try clear q2
         try clear hx2
         try clear qi2
         try clear p6
         try clear c22
         try clear c22b0
         try clear c22b1
         try clear c23
         try clear c23b0
         try clear c23b1
         try clear p23
         try clear q23
         try clear hx23
         try clear c24
         try clear c24b0
         try clear c24b1
         try clear p24
         try clear q24
         try clear hx24
         try clear qi24
         try clear c25
         try clear c25b0
         try clear c25b1
         try clear c26
         try clear c26b0
         try clear c26b1
         try clear c27
         try clear c27b0
         try clear c27b1
         try clear c29
         try clear hcz30_0
         try clear hcz30_1
         try clear hcz30_2
         try clear hcz30_3
         try clear hcz30_4
         try clear hfz30_0
         try clear hfz30_1
         try clear hfz30_2
         try clear hfz30_3
         try clear hfz30_4
         try clear hx239_0
         try clear hx240_0
         try clear hx241_0
         try clear hx242_0
         try clear hx243_0
         try clear hx245_0
         try clear hx246_0
         try clear hx247_0
         try clear p239
         try clear p240
         try clear p241
         try clear p242
         try clear p243
         try clear p245
         try clear p246
         try clear p247
         try clear q239
         try clear q240
         try clear q241
         try clear q242
         try clear q243
         try clear q245
         try clear q246
         try clear q247
         obtain ⟨kq, x59_12, rfl, HA, HJ12, BK238, BK244, HB⟩ := hcut
         cases kq with
         | zero => exact absurd HA.out (by simp [ringroadref26_Decode.j0])
         | succ kj12 =>
          have H := HA.out
          clear HA
          simp only [ringroadref26_Decode.j0] at H
          by_cases c32 : x59_12 = true
          ·
           subst c32
           have H1 : (some (0, 0, 0, 0, 0, ([] : List (S30)), 8)) = some (r1, r2, r3, r4, r5, r6, r7) := by rw [if_pos rfl] at H; exact H
           clear H
           have H := H1
           clear H1
           simp only [Option.some.injEq, Prod.mk.injEq] at H
           obtain ⟨rfl, rfl, rfl, rfl, rfl, rfl, rfl⟩ := H
           have hnb33 := NB238_244.out
           have hnc33 := NB244_238.out
           have hcz34_0 : wc.cell? ⟨gb238, 0, none⟩ = some (.int .i64 0) := (blk_cell BK238.out 0).trans rfl
           have hcz34_1 : wc.cell? ⟨gb238, 1, none⟩ = some (.int .i64 0) := (blk_cell BK238.out 1).trans rfl
           have hcz34_2 : wc.cell? ⟨gb238, 2, none⟩ = some (.int .i64 0) := (blk_cell BK238.out 2).trans rfl
           have hcz34_3 : wc.cell? ⟨gb238, 3, none⟩ = some (.int .i64 0) := (blk_cell BK238.out 3).trans rfl
           have hcz34_4 : wc.cell? ⟨gb238, 4, none⟩ = some (.int .i64 0) := (blk_cell BK238.out 4).trans rfl
           have hfz34_0 := blk_frozen BK238.out 0
           have hfz34_1 := blk_frozen BK238.out 1
           have hfz34_2 := blk_frozen BK238.out 2
           have hfz34_3 := blk_frozen BK238.out 3
           have hfz34_4 := blk_frozen BK238.out 4
           go_wp2
           refine bodyPost_ret (results_ctt rfl _ _ gb238 23 #[.int .i64 0, .int .i64 0, .int .i64 0, .int .i64 0, .int .i64 0] (0, 0) _ rfl (by (with_reducible repeat (first | refine blk_drewN ?_ _ | refine blk_drew ?_ | refine blk_alloc ?_ _)); refine blk_put (cs := #[.int .i64 0, .int .i64 0, .int .i64 0, .int .i64 0, .int .i64 0]) ?_ 4 _ rfl; (with_reducible repeat (first | refine blk_drewN ?_ _ | refine blk_drew ?_ | refine blk_alloc ?_ _)); refine blk_put (cs := #[.int .i64 0, .int .i64 0, .int .i64 0, .int .i64 0, .int .i64 0]) ?_ 3 _ rfl; (with_reducible repeat (first | refine blk_drewN ?_ _ | refine blk_drew ?_ | refine blk_alloc ?_ _)); refine blk_put (cs := #[.int .i64 0, .int .i64 0, .int .i64 0, .int .i64 0, .int .i64 0]) ?_ 2 _ rfl; (with_reducible repeat (first | refine blk_drewN ?_ _ | refine blk_drew ?_ | refine blk_alloc ?_ _)); refine blk_put (cs := #[.int .i64 0, .int .i64 0, .int .i64 0, .int .i64 0, .int .i64 0]) ?_ 1 _ rfl; (with_reducible repeat (first | refine blk_drewN ?_ _ | refine blk_drew ?_ | refine blk_alloc ?_ _)); refine blk_put (cs := #[.int .i64 0, .int .i64 0, .int .i64 0, .int .i64 0, .int .i64 0]) ?_ 0 _ rfl; (with_reducible repeat (first | refine blk_drewN ?_ _ | refine blk_drew ?_ | refine blk_alloc ?_ _)); exact BK238.out) Tryd.underlying23 rfl (by kernel_rfl)) rfl ?_
           exact ⟨_, by first | rfl | (simp [errW_none, errW_some] <;> rfl) | (simp [*, errW_none, errW_some] <;> rfl), by first | exact Kd.R_nil _ _ _ _ _ | exact Kd.N_nil _ _ _ _ _ | exact Kd.V_nil _ _ _ _ _ | exact Kd.Q_nil _ _ _ _ _ | exact Kd.S_nil _ _ _ _ _, by repeat (first | (with_reducible first | exact HB.out | apply below_alloc | apply pw_below_drewN | apply below_drew1 | refine below_set ?_ GE238.out | refine below_set ?_ GE244.out) | exact HB.out)⟩
          ·
           replace c32 := Bool.eq_false_iff.mpr c32
           subst c32
           have H1 : (ringroadref26_Decode.l0 kj12 l0 ([] : List (S30)) 8 (wrap64 (rd l0 3)) (wrap64 (rd l0 4)) (wrap64 (rd l0 5)) (wrap64 (rd l0 6)) (wrap64 (rd l0 7))) = some (r1, r2, r3, r4, r5, r6, r7) := by rw [if_neg (show ¬ (false = true) by decide)] at H; exact H
           clear H
           have H := H1
           clear H1
           have H' := Aside0.mk H
           clear H
           go_wp2
           go_loopg [6, 7] kj12 (fun kq v6 v7 w' => ∃ (x6_2 : List (S30)) (x7_2 : Int), v7 = .int .i64 x7_2 ∧ Aside0 (ringroadref26_Decode.l0 kq l0 x6_2 x7_2 (wrap64 (rd l0 3)) (wrap64 (rd l0 4)) (wrap64 (rd l0 5)) (wrap64 (rd l0 6)) (wrap64 (rd l0 7)) = some (r1, r2, r3, r4, r5, r6, r7)) ∧ Aside0 (kq ≤ kj12) ∧ Aside0 (Kd.R k30 30 w' w.heap.size (fun _ => True) v6 x6_2) ∧ Aside0 (w'.heap[gb238]? = some (.cells #[.int .i64 0, .int .i64 0, .int .i64 0, .int .i64 0, .int .i64 0] 23 (0, 0))) ∧ Aside0 (w'.heap[gb244]? = some (.cells #[.int .i64 (wrap64 (rd l0 3)), .int .i64 (wrap64 (rd l0 4)), .int .i64 (wrap64 (rd l0 5)), .int .i64 (wrap64 (rd l0 6)), .int .i64 (wrap64 (rd l0 7))] 23 (0, 0))) ∧ Aside0 (Below w.heap.size w w'))
           case atStart => exact ⟨(([] : List (S30))), (8), (by first | rfl | (simp; done) | (simp [*]; done)), H', ⟨Nat.le_refl _⟩, ⟨by first | exact Kd.R_nil _ _ _ _ _ | exact Kd.N_nil _ _ _ _ _ | exact Kd.V_nil _ _ _ _ _ | exact Kd.Q_nil _ _ _ _ _ | exact Kd.S_nil _ _ _ _ _⟩, ⟨by (with_reducible repeat (first | refine blk_drewN ?_ _ | refine blk_drew ?_ | refine blk_alloc ?_ _)); exact BK238.out⟩, ⟨by (with_reducible repeat (first | refine blk_drewN ?_ _ | refine blk_drew ?_ | refine blk_alloc ?_ _)); exact BK244.out⟩, ⟨by repeat (first | (with_reducible first | exact HB.out | apply below_alloc | apply pw_below_drewN | apply below_drew1 | refine below_set ?_ GE238.out | refine below_set ?_ GE244.out) | exact HB.out)⟩⟩
           case round =>
            clear H'
            try clear c2
            try clear p2
            try clear q2
            try clear hx2
            try clear qi2
            try clear c3
            try clear p6
            try clear c22
            try clear c22b0
            try clear c22b1
            try clear c23
            try clear c23b0
            try clear c23b1
            try clear p23
            try clear q23
            try clear hx23
            try clear c24
            try clear c24b0
            try clear c24b1
            try clear p24
            try clear q24
            try clear hx24
            try clear qi24
            try clear c25
            try clear c25b0
            try clear c25b1
            try clear c26
            try clear c26b0
            try clear c26b1
            try clear c27
            try clear c27b0
            try clear c27b1
            try clear c29
            try clear c32
            try clear c33
            try clear hcz30_0
            try clear hcz30_1
            try clear hcz30_2
            try clear hcz30_3
            try clear hcz30_4
            try clear hcz34_0
            try clear hcz34_1
            try clear hcz34_2
            try clear hcz34_3
            try clear hcz34_4
            try clear hfz30_0
            try clear hfz30_1
            try clear hfz30_2
            try clear hfz30_3
            try clear hfz30_4
            try clear hfz34_0
            try clear hfz34_1
            try clear hfz34_2
            try clear hfz34_3
            try clear hfz34_4
            try clear hx239_0
            try clear hx240_0
            try clear hx241_0
            try clear hx242_0
            try clear hx243_0
            try clear hx245_0
            try clear hx246_0
            try clear hx247_0
            try clear p2
            try clear p23
            try clear p239
            try clear p24
            try clear p240
            try clear p241
            try clear p242
            try clear p243
            try clear p245
            try clear p246
            try clear p247
            try clear p6
            try clear q2
            try clear q23
            try clear q239
            try clear q24
            try clear q240
            try clear q241
            try clear q242
            try clear q243
            try clear q245
            try clear q246
            try clear q247
            obtain ⟨x6_2, x7_2, rfl, HA, HK2, HO_6, BK238, BK244, HB⟩ := hrel
            cases gk with
            | zero => exact absurd HA.out (by simp [ringroadref26_Decode.l0])
            | succ k2 =>
             have H := HA.out
             clear HA
             simp only [ringroadref26_Decode.l0] at H
             by_cases c35 : x7_2 < (l0.length : Int)
             ·
              rw [if_pos c35] at H
              have c35b0 : decide (x7_2 < (l0.length : Int)) = true := decide_eq_true c35
              clear c35
              by_cases c36 : (wrap64 (x7_2 + 12)) ≤ (l0.length : Int)
              ·
               rw [if_pos c36] at H
               have c36b0 : decide ((wrap64 (x7_2 + 12)) ≤ (l0.length : Int)) = true := decide_eq_true c36
               clear c36
               by_cases c37 : 0 ≤ x7_2
               ·
                rw [if_pos c37] at H
                have c37b0 : decide (0 ≤ x7_2) = true := decide_eq_true c37
                clear c37
                obtain ⟨ji38, hji38⟩ : ∃ j_ : Int, (wrap64 (x7_2 + 1)) = j_ := ⟨_, rfl⟩
                replace H : (if 0 ≤ (ji38) then (if (ji38) < (l0.length : Int) then (if 0 ≤ (wrap64 (x7_2 + 2)) then (if (wrap64 (x7_2 + 2)) < (l0.length : Int) then (if 0 ≤ (wrap64 (x7_2 + 3)) then (if (wrap64 (x7_2 + 3)) < (l0.length : Int) then (if 0 ≤ (wrap64 (x7_2 + 4)) then (if (wrap64 (x7_2 + 4)) ≤ (wrap64 (x7_2 + 12)) then ((ringroadref02_Number.f k2 ((l0.take ((wrap64 (x7_2 + 12)) : Int).toNat).drop ((wrap64 (x7_2 + 4)) : Int).toNat)).bind fun t255 => ((ringroadref26_May.f (wrap64 (rd l0 x7_2)) (wrap64 (rd l0 (ji38))) (wrap64 (rd l0 (wrap64 (x7_2 + 2)))) (wrap64 (rd l0 (wrap64 (x7_2 + 3)))) t255).bind fun t257 => (if t257 = true then (if x6_2.length < 3518437208883 then (ringroadref26_Decode.l0 k2 l0 (x6_2 ++ [(⟨wrap64 (rd l0 x7_2), wrap64 (rd l0 (ji38)), wrap64 (rd l0 (wrap64 (x7_2 + 2))), wrap64 (rd l0 (wrap64 (x7_2 + 3))), t255⟩ : S30)]) (wrap64 (x7_2 + 12)) (wrap64 (rd l0 3)) (wrap64 (rd l0 4)) (wrap64 (rd l0 5)) (wrap64 (rd l0 6)) (wrap64 (rd l0 7))) else (none)) else (if x6_2.length < 3518437208883 then (ringroadref26_Decode.l0 k2 l0 (x6_2 ++ [(⟨0, 0, 0, 0, 0⟩ : S30)]) (wrap64 (x7_2 + 12)) (wrap64 (rd l0 3)) (wrap64 (rd l0 4)) (wrap64 (rd l0 5)) (wrap64 (rd l0 6)) (wrap64 (rd l0 7))) else (none))))) else (none)) else (none)) else (none)) else (none)) else (none)) else (none)) else (none)) else (none)) = some (r1, r2, r3, r4, r5, r6, r7) := by first | (rw [hji38] at H; exact H) | (simp only [hji38] at H ⊢; exact H)
                have hji38w : (IntKind.i64.wrap (x7_2 + 1)) = ji38 := (i64_w _).trans hji38
                by_cases c39 : 0 ≤ (ji38)
                ·
                 rw [if_pos c39] at H
                 have c39b0 : decide (0 ≤ (ji38)) = true := decide_eq_true c39
                 clear c39
                 by_cases c40 : (ji38) < (l0.length : Int)
                 ·
                  rw [if_pos c40] at H
                  have c40b0 : decide ((ji38) < (l0.length : Int)) = true := decide_eq_true c40
                  clear c40
                  obtain ⟨ji41, hji41⟩ : ∃ j_ : Int, (wrap64 (x7_2 + 2)) = j_ := ⟨_, rfl⟩
                  replace H : (if 0 ≤ (ji41) then (if (ji41) < (l0.length : Int) then (if 0 ≤ (wrap64 (x7_2 + 3)) then (if (wrap64 (x7_2 + 3)) < (l0.length : Int) then (if 0 ≤ (wrap64 (x7_2 + 4)) then (if (wrap64 (x7_2 + 4)) ≤ (wrap64 (x7_2 + 12)) then ((ringroadref02_Number.f k2 ((l0.take ((wrap64 (x7_2 + 12)) : Int).toNat).drop ((wrap64 (x7_2 + 4)) : Int).toNat)).bind fun t255 => ((ringroadref26_May.f (wrap64 (rd l0 x7_2)) (wrap64 (rd l0 (ji38))) (wrap64 (rd l0 (ji41))) (wrap64 (rd l0 (wrap64 (x7_2 + 3)))) t255).bind fun t257 => (if t257 = true then (if x6_2.length < 3518437208883 then (ringroadref26_Decode.l0 k2 l0 (x6_2 ++ [(⟨wrap64 (rd l0 x7_2), wrap64 (rd l0 (ji38)), wrap64 (rd l0 (ji41)), wrap64 (rd l0 (wrap64 (x7_2 + 3))), t255⟩ : S30)]) (wrap64 (x7_2 + 12)) (wrap64 (rd l0 3)) (wrap64 (rd l0 4)) (wrap64 (rd l0 5)) (wrap64 (rd l0 6)) (wrap64 (rd l0 7))) else (none)) else (if x6_2.length < 3518437208883 then (ringroadref26_Decode.l0 k2 l0 (x6_2 ++ [(⟨0, 0, 0, 0, 0⟩ : S30)]) (wrap64 (x7_2 + 12)) (wrap64 (rd l0 3)) (wrap64 (rd l0 4)) (wrap64 (rd l0 5)) (wrap64 (rd l0 6)) (wrap64 (rd l0 7))) else (none))))) else (none)) else (none)) else (none)) else (none)) else (none)) else (none)) = some (r1, r2, r3, r4, r5, r6, r7) := by first | (rw [hji41] at H; exact H) | (simp only [hji41] at H ⊢; exact H)
                  have hji41w : (IntKind.i64.wrap (x7_2 + 2)) = ji41 := (i64_w _).trans hji41
                  by_cases c42 : 0 ≤ (ji41)
                  ·
                   rw [if_pos c42] at H
                   have c42b0 : decide (0 ≤ (ji41)) = true := decide_eq_true c42
                   clear c42
                   by_cases c43 : (ji41) < (l0.length : Int)
                   ·
                    rw [if_pos c43] at H
                    have c43b0 : decide ((ji41) < (l0.length : Int)) = true := decide_eq_true c43
                    clear c43
                    obtain ⟨ji44, hji44⟩ : ∃ j_ : Int, (wrap64 (x7_2 + 3)) = j_ := ⟨_, rfl⟩
                    replace H : (if 0 ≤ (ji44) then (if (ji44) < (l0.length : Int) then (if 0 ≤ (wrap64 (x7_2 + 4)) then (if (wrap64 (x7_2 + 4)) ≤ (wrap64 (x7_2 + 12)) then ((ringroadref02_Number.f k2 ((l0.take ((wrap64 (x7_2 + 12)) : Int).toNat).drop ((wrap64 (x7_2 + 4)) : Int).toNat)).bind fun t255 => ((ringroadref26_May.f (wrap64 (rd l0 x7_2)) (wrap64 (rd l0 (ji38))) (wrap64 (rd l0 (ji41))) (wrap64 (rd l0 (ji44))) t255).bind fun t257 => (if t257 = true then (if x6_2.length < 3518437208883 then (ringroadref26_Decode.l0 k2 l0 (x6_2 ++ [(⟨wrap64 (rd l0 x7_2), wrap64 (rd l0 (ji38)), wrap64 (rd l0 (ji41)), wrap64 (rd l0 (ji44)), t255⟩ : S30)]) (wrap64 (x7_2 + 12)) (wrap64 (rd l0 3)) (wrap64 (rd l0 4)) (wrap64 (rd l0 5)) (wrap64 (rd l0 6)) (wrap64 (rd l0 7))) else (none)) else (if x6_2.length < 3518437208883 then (ringroadref26_Decode.l0 k2 l0 (x6_2 ++ [(⟨0, 0, 0, 0, 0⟩ : S30)]) (wrap64 (x7_2 + 12)) (wrap64 (rd l0 3)) (wrap64 (rd l0 4)) (wrap64 (rd l0 5)) (wrap64 (rd l0 6)) (wrap64 (rd l0 7))) else (none))))) else (none)) else (none)) else (none)) else (none)) = some (r1, r2, r3, r4, r5, r6, r7) := by first | (rw [hji44] at H; exact H) | (simp only [hji44] at H ⊢; exact H)
                    have hji44w : (IntKind.i64.wrap (x7_2 + 3)) = ji44 := (i64_w _).trans hji44
                    by_cases c45 : 0 ≤ (ji44)
                    ·
                     rw [if_pos c45] at H
                     have c45b0 : decide (0 ≤ (ji44)) = true := decide_eq_true c45
                     clear c45
                     by_cases c46 : (ji44) < (l0.length : Int)
                     ·
                      rw [if_pos c46] at H
                      have c46b0 : decide ((ji44) < (l0.length : Int)) = true := decide_eq_true c46
                      clear c46
                      obtain ⟨ji47, hji47⟩ : ∃ j_ : Int, (wrap64 (x7_2 + 4)) = j_ := ⟨_, rfl⟩
                      replace H : (if 0 ≤ (ji47) then (if (ji47) ≤ (wrap64 (x7_2 + 12)) then ((ringroadref02_Number.f k2 ((l0.take ((wrap64 (x7_2 + 12)) : Int).toNat).drop ((ji47) : Int).toNat)).bind fun t255 => ((ringroadref26_May.f (wrap64 (rd l0 x7_2)) (wrap64 (rd l0 (ji38))) (wrap64 (rd l0 (ji41))) (wrap64 (rd l0 (ji44))) t255).bind fun t257 => (if t257 = true then (if x6_2.length < 3518437208883 then (ringroadref26_Decode.l0 k2 l0 (x6_2 ++ [(⟨wrap64 (rd l0 x7_2), wrap64 (rd l0 (ji38)), wrap64 (rd l0 (ji41)), wrap64 (rd l0 (ji44)), t255⟩ : S30)]) (wrap64 (x7_2 + 12)) (wrap64 (rd l0 3)) (wrap64 (rd l0 4)) (wrap64 (rd l0 5)) (wrap64 (rd l0 6)) (wrap64 (rd l0 7))) else (none)) else (if x6_2.length < 3518437208883 then (ringroadref26_Decode.l0 k2 l0 (x6_2 ++ [(⟨0, 0, 0, 0, 0⟩ : S30)]) (wrap64 (x7_2 + 12)) (wrap64 (rd l0 3)) (wrap64 (rd l0 4)) (wrap64 (rd l0 5)) (wrap64 (rd l0 6)) (wrap64 (rd l0 7))) else (none))))) else (none)) else (none)) = some (r1, r2, r3, r4, r5, r6, r7) := by first | (rw [hji47] at H; exact H) | (simp only [hji47] at H ⊢; exact H)
                      have hji47w : (IntKind.i64.wrap (x7_2 + 4)) = ji47 := (i64_w _).trans hji47
                      by_cases c48 : 0 ≤ (ji47)
                      ·
                       rw [if_pos c48] at H
                       have c48b0 := eq_true c48
                       have c48b1 : decide (0 ≤ (ji47)) = true := decide_eq_true c48
                       clear c48
                       by_cases c49 : (ji47) ≤ (wrap64 (x7_2 + 12))
                       ·
                        rw [if_pos c49] at H
                        have c49b0 := eq_true c49
                        have c49b1 : decide ((ji47) ≤ (wrap64 (x7_2 + 12))) = true := decide_eq_true c49
                        have c50b0 := eq_true (of_decide_eq_true (by first | (with_reducible assumption) | assumption) : (wrap64 (x7_2 + 12)) ≤ (l0.length : Int))
                        replace H := Option.bind_eq_some_iff.mp H
                        obtain ⟨t255, A510, H⟩ := H
                        replace H : ((ringroadref26_May.f (wrap64 (rd l0 x7_2)) (wrap64 (rd l0 (ji38))) (wrap64 (rd l0 (ji41))) (wrap64 (rd l0 (ji44))) t255).bind fun t257 => (if t257 = true then (if x6_2.length < 3518437208883 then (ringroadref26_Decode.l0 k2 l0 (x6_2 ++ [(⟨wrap64 (rd l0 x7_2), wrap64 (rd l0 (ji38)), wrap64 (rd l0 (ji41)), wrap64 (rd l0 (ji44)), t255⟩ : S30)]) (wrap64 (x7_2 + 12)) (wrap64 (rd l0 3)) (wrap64 (rd l0 4)) (wrap64 (rd l0 5)) (wrap64 (rd l0 6)) (wrap64 (rd l0 7))) else (none)) else (if x6_2.length < 3518437208883 then (ringroadref26_Decode.l0 k2 l0 (x6_2 ++ [(⟨0, 0, 0, 0, 0⟩ : S30)]) (wrap64 (x7_2 + 12)) (wrap64 (rd l0 3)) (wrap64 (rd l0 4)) (wrap64 (rd l0 5)) (wrap64 (rd l0 6)) (wrap64 (rd l0 7))) else (none)))) = some (r1, r2, r3, r4, r5, r6, r7) := H
                        have A51 := Aside0.mk A510
                        clear A510
                        replace H := Option.bind_eq_some_iff.mp H
                        obtain ⟨t257, A520, H⟩ := H
                        replace H : (if t257 = true then (if x6_2.length < 3518437208883 then (ringroadref26_Decode.l0 k2 l0 (x6_2 ++ [(⟨wrap64 (rd l0 x7_2), wrap64 (rd l0 (ji38)), wrap64 (rd l0 (ji41)), wrap64 (rd l0 (ji44)), t255⟩ : S30)]) (wrap64 (x7_2 + 12)) (wrap64 (rd l0 3)) (wrap64 (rd l0 4)) (wrap64 (rd l0 5)) (wrap64 (rd l0 6)) (wrap64 (rd l0 7))) else (none)) else (if x6_2.length < 3518437208883 then (ringroadref26_Decode.l0 k2 l0 (x6_2 ++ [(⟨0, 0, 0, 0, 0⟩ : S30)]) (wrap64 (x7_2 + 12)) (wrap64 (rd l0 3)) (wrap64 (rd l0 4)) (wrap64 (rd l0 5)) (wrap64 (rd l0 6)) (wrap64 (rd l0 7))) else (none))) = some (r1, r2, r3, r4, r5, r6, r7) := H
                        have A52 := Aside0.mk A520
                        clear A520
                        try go_wp2_with (first | ((with_reducible refine gate_dst (N := 8) rfl ?_); refine box_event ?hg (N := 8) ?hd (cs := #[.int .i64 0, .int .i64 0, .int .i64 0, .int .i64 0, .int .u64 0]) (t := 30) ?hr ?_; (case hd => rfl); (case hg => rfl); (case hr => first | (go_simp; done) | (go_simp; rfl)); intro gb249 hg w55 hbox hb; have n0_ := Aside0.mk (Kd.R_below (Kd.R_elderB (by (with_reducible repeat (first | apply Kd.R_alloc | apply Kd.R_drewN | apply Kd.R_drew)); exact HO_6.out) gb249 (Nat.le_of_eq hg.symm)) hb); have n1_ := Aside0.mk (blk_below (g := gb238) (o := .cells #[.int .i64 0, .int .i64 0, .int .i64 0, .int .i64 0, .int .i64 0] 23 (0, 0)) (by (with_reducible repeat (first | refine blk_drewN ?_ _ | refine blk_drew ?_ | refine blk_alloc ?_ _)); exact BK238.out) hb); have n2_ := Aside0.mk (blk_below (g := gb244) (o := .cells #[.int .i64 (wrap64 (rd l0 3)), .int .i64 (wrap64 (rd l0 4)), .int .i64 (wrap64 (rd l0 5)), .int .i64 (wrap64 (rd l0 6)), .int .i64 (wrap64 (rd l0 7))] 23 (0, 0)) (by (with_reducible repeat (first | refine blk_drewN ?_ _ | refine blk_drew ?_ | refine blk_alloc ?_ _)); exact BK244.out) hb); have n3_ := Aside0.mk (below_step (by repeat (first | (with_reducible first | exact HB.out | apply below_alloc | apply pw_below_drewN | apply below_drew1 | refine below_set ?_ GE238.out | refine below_set ?_ GE244.out) | exact HB.out)) hb); have n4_ := Aside0.mk (hbox); have n5_ := Aside0.mk ((by rw [hg]; exact (below_size (by repeat (first | (with_reducible first | exact HB.out | apply below_alloc | apply pw_below_drewN | apply below_drew1 | refine below_set ?_ GE238.out | refine below_set ?_ GE244.out) | exact HB.out))) : w.heap.size ≤ gb249)); have n6_ := Aside0.mk ((by rw [hg]; exact (below_size (by repeat (first | (with_reducible first | exact HB.out | apply below_alloc | apply pw_below_drewN | apply below_drew1 | refine below_set ?_ GE238.out | refine below_set ?_ GE244.out) | exact HB.out))) : w.heap.size ≤ gb249)); have n7_ := Aside0.mk ((by rw [hg]; exact Nat.ne_of_lt (blk_lt (g := gb238) (o := .cells #[.int .i64 0, .int .i64 0, .int .i64 0, .int .i64 0, .int .i64 0] 23 (0, 0)) (by (with_reducible repeat (first | refine blk_drewN ?_ _ | refine blk_drew ?_ | refine blk_alloc ?_ _)); exact BK238.out)) : gb238 ≠ gb249)); have n8_ := Aside0.mk ((by rw [hg]; exact Nat.ne_of_gt (blk_lt (g := gb238) (o := .cells #[.int .i64 0, .int .i64 0, .int .i64 0, .int .i64 0, .int .i64 0] 23 (0, 0)) (by (with_reducible repeat (first | refine blk_drewN ?_ _ | refine blk_drew ?_ | refine blk_alloc ?_ _)); exact BK238.out)) : gb249 ≠ gb238)); have n9_ := Aside0.mk ((by rw [hg]; exact Nat.ne_of_lt (blk_lt (g := gb244) (o := .cells #[.int .i64 (wrap64 (rd l0 3)), .int .i64 (wrap64 (rd l0 4)), .int .i64 (wrap64 (rd l0 5)), .int .i64 (wrap64 (rd l0 6)), .int .i64 (wrap64 (rd l0 7))] 23 (0, 0)) (by (with_reducible repeat (first | refine blk_drewN ?_ _ | refine blk_drew ?_ | refine blk_alloc ?_ _)); exact BK244.out)) : gb244 ≠ gb249)); have n10_ := Aside0.mk ((by rw [hg]; exact Nat.ne_of_gt (blk_lt (g := gb244) (o := .cells #[.int .i64 (wrap64 (rd l0 3)), .int .i64 (wrap64 (rd l0 4)), .int .i64 (wrap64 (rd l0 5)), .int .i64 (wrap64 (rd l0 6)), .int .i64 (wrap64 (rd l0 7))] 23 (0, 0)) (by (with_reducible repeat (first | refine blk_drewN ?_ _ | refine blk_drew ?_ | refine blk_alloc ?_ _)); exact BK244.out)) : gb249 ≠ gb244)); clear HO_6; clear BK238; clear BK244; clear HB; have HO_6 := n0_; have BK238 := n1_; have BK244 := n2_; have HB := n3_; have BK249 := n4_; have GW249 := n5_; have GE249 := n6_; have NB238_249 := n7_; have NB249_238 := n8_; have NB244_249 := n9_; have NB249_244 := n10_; clear n0_ n1_ n2_ n3_ n4_ n5_ n6_ n7_ n8_ n9_ n10_; clear hb hbox hg; have hnb56 := NB249_238.out; have hnc56 := NB238_249.out; have hnb57 := NB249_244.out; have hnc57 := NB244_249.out; have hcz58_0 : w55.cell? ⟨gb249, 0, none⟩ = some (.int .i64 0) := (blk_cell BK249.out 0).trans rfl; have hcz58_1 : w55.cell? ⟨gb249, 1, none⟩ = some (.int .i64 0) := (blk_cell BK249.out 1).trans rfl; have hcz58_2 : w55.cell? ⟨gb249, 2, none⟩ = some (.int .i64 0) := (blk_cell BK249.out 2).trans rfl; have hcz58_3 : w55.cell? ⟨gb249, 3, none⟩ = some (.int .i64 0) := (blk_cell BK249.out 3).trans rfl; have hcz58_4 : w55.cell? ⟨gb249, 4, none⟩ = some (.int .u64 0) := (blk_cell BK249.out 4).trans rfl; have hfz58_0 := blk_frozen BK249.out 0; have hfz58_1 := blk_frozen BK249.out 1; have hfz58_2 := blk_frozen BK249.out 2; have hfz58_3 := blk_frozen BK249.out 3; have hfz58_4 := blk_frozen BK249.out 4))
                        have n0_ : Aside0 (Kd.R k30 30 (((((w55.setCell ⟨gb249, 0, none⟩ (.int .i64 0)).setCell ⟨gb249, 1, none⟩ (.int .i64 0)).setCell ⟨gb249, 2, none⟩ (.int .i64 0)).setCell ⟨gb249, 3, none⟩ (.int .i64 0)).setCell ⟨gb249, 4, none⟩ (.int .u64 0)) w.heap.size (fun k_ => k_ ≠ gb249) u6 x6_2) := ⟨by (with_reducible repeat (first | apply Kd.R_alloc | apply Kd.R_drewN | apply Kd.R_drew)); exact Kd.R_mono (Kd.R_far (p := ⟨gb249, 4, none⟩) (Kd.R_far (p := ⟨gb249, 3, none⟩) (Kd.R_far (p := ⟨gb249, 2, none⟩) (Kd.R_far (p := ⟨gb249, 1, none⟩) (Kd.R_far (p := ⟨gb249, 0, none⟩) (Kd.R_mono HO_6.out (fun k_ hk => (⟨hk, hk.2⟩ : _ ∧ k_ ≠ gb249))) (fun _ hk => hk.2) (.int .i64 0)) (fun _ hk => hk.2) (.int .i64 0)) (fun _ hk => hk.2) (.int .i64 0)) (fun _ hk => hk.2) (.int .i64 0)) (fun _ hk => hk.2) (.int .u64 0)) (fun _ hk => hk.1.2)⟩
                        have n1_ : Aside0 ((((((w55.setCell ⟨gb249, 0, none⟩ (.int .i64 0)).setCell ⟨gb249, 1, none⟩ (.int .i64 0)).setCell ⟨gb249, 2, none⟩ (.int .i64 0)).setCell ⟨gb249, 3, none⟩ (.int .i64 0)).setCell ⟨gb249, 4, none⟩ (.int .u64 0)).heap[gb238]? = some (.cells #[.int .i64 0, .int .i64 0, .int .i64 0, .int .i64 0, .int .i64 0] 23 (0, 0))) := ⟨by (with_reducible repeat (first | refine blk_drewN ?_ _ | refine blk_drew ?_ | refine blk_alloc ?_ _)); refine blk_far ?_ NB238_249.out _; (with_reducible repeat (first | refine blk_drewN ?_ _ | refine blk_drew ?_ | refine blk_alloc ?_ _)); refine blk_far ?_ NB238_249.out _; (with_reducible repeat (first | refine blk_drewN ?_ _ | refine blk_drew ?_ | refine blk_alloc ?_ _)); refine blk_far ?_ NB238_249.out _; (with_reducible repeat (first | refine blk_drewN ?_ _ | refine blk_drew ?_ | refine blk_alloc ?_ _)); refine blk_far ?_ NB238_249.out _; (with_reducible repeat (first | refine blk_drewN ?_ _ | refine blk_drew ?_ | refine blk_alloc ?_ _)); refine blk_far ?_ NB238_249.out _; (with_reducible repeat (first | refine blk_drewN ?_ _ | refine blk_drew ?_ | refine blk_alloc ?_ _)); exact BK238.out⟩
                        have n2_ : Aside0 ((((((w55.setCell ⟨gb249, 0, none⟩ (.int .i64 0)).setCell ⟨gb249, 1, none⟩ (.int .i64 0)).setCell ⟨gb249, 2, none⟩ (.int .i64 0)).setCell ⟨gb249, 3, none⟩ (.int .i64 0)).setCell ⟨gb249, 4, none⟩ (.int .u64 0)).heap[gb244]? = some (.cells #[.int .i64 (wrap64 (rd l0 3)), .int .i64 (wrap64 (rd l0 4)), .int .i64 (wrap64 (rd l0 5)), .int .i64 (wrap64 (rd l0 6)), .int .i64 (wrap64 (rd l0 7))] 23 (0, 0))) := ⟨by (with_reducible repeat (first | refine blk_drewN ?_ _ | refine blk_drew ?_ | refine blk_alloc ?_ _)); refine blk_far ?_ NB244_249.out _; (with_reducible repeat (first | refine blk_drewN ?_ _ | refine blk_drew ?_ | refine blk_alloc ?_ _)); refine blk_far ?_ NB244_249.out _; (with_reducible repeat (first | refine blk_drewN ?_ _ | refine blk_drew ?_ | refine blk_alloc ?_ _)); refine blk_far ?_ NB244_249.out _; (with_reducible repeat (first | refine blk_drewN ?_ _ | refine blk_drew ?_ | refine blk_alloc ?_ _)); refine blk_far ?_ NB244_249.out _; (with_reducible repeat (first | refine blk_drewN ?_ _ | refine blk_drew ?_ | refine blk_alloc ?_ _)); refine blk_far ?_ NB244_249.out _; (with_reducible repeat (first | refine blk_drewN ?_ _ | refine blk_drew ?_ | refine blk_alloc ?_ _)); exact BK244.out⟩
                        have n3_ : Aside0 ((((((w55.setCell ⟨gb249, 0, none⟩ (.int .i64 0)).setCell ⟨gb249, 1, none⟩ (.int .i64 0)).setCell ⟨gb249, 2, none⟩ (.int .i64 0)).setCell ⟨gb249, 3, none⟩ (.int .i64 0)).setCell ⟨gb249, 4, none⟩ (.int .u64 0)).heap[gb249]? = some (.cells #[.int .i64 0, .int .i64 0, .int .i64 0, .int .i64 0, .int .u64 0] 30 (0, 0))) := ⟨by (with_reducible repeat (first | refine blk_drewN ?_ _ | refine blk_drew ?_ | refine blk_alloc ?_ _)); refine blk_put (cs := #[.int .i64 0, .int .i64 0, .int .i64 0, .int .i64 0, .int .u64 0]) ?_ 4 _ rfl; (with_reducible repeat (first | refine blk_drewN ?_ _ | refine blk_drew ?_ | refine blk_alloc ?_ _)); refine blk_put (cs := #[.int .i64 0, .int .i64 0, .int .i64 0, .int .i64 0, .int .u64 0]) ?_ 3 _ rfl; (with_reducible repeat (first | refine blk_drewN ?_ _ | refine blk_drew ?_ | refine blk_alloc ?_ _)); refine blk_put (cs := #[.int .i64 0, .int .i64 0, .int .i64 0, .int .i64 0, .int .u64 0]) ?_ 2 _ rfl; (with_reducible repeat (first | refine blk_drewN ?_ _ | refine blk_drew ?_ | refine blk_alloc ?_ _)); refine blk_put (cs := #[.int .i64 0, .int .i64 0, .int .i64 0, .int .i64 0, .int .u64 0]) ?_ 1 _ rfl; (with_reducible repeat (first | refine blk_drewN ?_ _ | refine blk_drew ?_ | refine blk_alloc ?_ _)); refine blk_put (cs := #[.int .i64 0, .int .i64 0, .int .i64 0, .int .i64 0, .int .u64 0]) ?_ 0 _ rfl; (with_reducible repeat (first | refine blk_drewN ?_ _ | refine blk_drew ?_ | refine blk_alloc ?_ _)); exact BK249.out⟩
                        have n4_ : Aside0 (Below w.heap.size w (((((w55.setCell ⟨gb249, 0, none⟩ (.int .i64 0)).setCell ⟨gb249, 1, none⟩ (.int .i64 0)).setCell ⟨gb249, 2, none⟩ (.int .i64 0)).setCell ⟨gb249, 3, none⟩ (.int .i64 0)).setCell ⟨gb249, 4, none⟩ (.int .u64 0))) := ⟨by repeat (first | (with_reducible first | exact HB.out | apply below_alloc | apply pw_below_drewN | apply below_drew1 | refine below_set ?_ GE238.out | refine below_set ?_ GE244.out | refine below_set ?_ GE249.out) | exact HB.out)⟩
                        (try clear HO_6)
                        (try clear BK238)
                        (try clear BK244)
                        (try clear BK249)
                        (try clear HB)
                        generalize (((((w55.setCell ⟨gb249, 0, none⟩ (.int .i64 0)).setCell ⟨gb249, 1, none⟩ (.int .i64 0)).setCell ⟨gb249, 2, none⟩ (.int .i64 0)).setCell ⟨gb249, 3, none⟩ (.int .i64 0)).setCell ⟨gb249, 4, none⟩ (.int .u64 0)) = w59 at n0_ n1_ n2_ n3_ n4_ ⊢
                        have HO_6 := n0_
                        have BK238 := n1_
                        have BK244 := n2_
                        have BK249 := n3_
                        have HB := n4_
                        clear n0_ n1_ n2_ n3_ n4_
                        have n0_ := Aside0.mk (Kd.R_drew HO_6.out)
                        have n1_ := Aside0.mk (blk_drew BK238.out)
                        have n2_ := Aside0.mk (blk_drew BK244.out)
                        have n3_ := Aside0.mk (blk_drew BK249.out)
                        have n4_ := Aside0.mk (below_drew1 HB.out)
                        clear HO_6
                        clear BK238
                        clear BK244
                        clear BK249
                        clear HB
                        have HO_6 := n0_
                        have BK238 := n1_
                        have BK244 := n2_
                        have BK249 := n3_
                        have HB := n4_
                        clear n0_ n1_ n2_ n3_ n4_
                        have p250 : 0 ≤ (x7_2 : Int) := of_decide_eq_true (by first | (with_reducible assumption) | assumption)
                        have q250 : x7_2 < (l0.length : Int) := of_decide_eq_true (by first | (with_reducible assumption) | assumption)
                        obtain ⟨ad250, e250, hx250_0⟩ := Kd.at_int HR0.out x7_2 p250 q250
                        have hw250_0 := hx250_0
                        obtain rfl : ad239 = ad250 := (by injection e250)
                        replace hx250_0 := (HB.out.cell (World.block_lt_of_cell? w _ hx250_0)).trans hx250_0
                        replace p250 := eq_true p250
                        replace q250 := eq_true q250
                        have p251 : 0 ≤ ((ji38) : Int) := of_decide_eq_true (by first | (with_reducible assumption) | assumption)
                        have q251 : (ji38) < (l0.length : Int) := of_decide_eq_true (by first | (with_reducible assumption) | assumption)
                        obtain ⟨ad251, e251, hx251_0⟩ := Kd.at_int HR0.out (ji38) p251 q251
                        have hw251_0 := hx251_0
                        obtain rfl : ad239 = ad251 := (by injection e251)
                        replace hx251_0 := (HB.out.cell (World.block_lt_of_cell? w _ hx251_0)).trans hx251_0
                        replace p251 := eq_true p251
                        replace q251 := eq_true q251
                        have p252 : 0 ≤ ((ji41) : Int) := of_decide_eq_true (by first | (with_reducible assumption) | assumption)
                        have q252 : (ji41) < (l0.length : Int) := of_decide_eq_true (by first | (with_reducible assumption) | assumption)
                        obtain ⟨ad252, e252, hx252_0⟩ := Kd.at_int HR0.out (ji41) p252 q252
                        have hw252_0 := hx252_0
                        obtain rfl : ad239 = ad252 := (by injection e252)
                        replace hx252_0 := (HB.out.cell (World.block_lt_of_cell? w _ hx252_0)).trans hx252_0
                        replace p252 := eq_true p252
                        replace q252 := eq_true q252
                        have p253 : 0 ≤ ((ji44) : Int) := of_decide_eq_true (by first | (with_reducible assumption) | assumption)
                        have q253 : (ji44) < (l0.length : Int) := of_decide_eq_true (by first | (with_reducible assumption) | assumption)
                        obtain ⟨ad253, e253, hx253_0⟩ := Kd.at_int HR0.out (ji44) p253 q253
                        have hw253_0 := hx253_0
                        obtain rfl : ad239 = ad253 := (by injection e253)
                        replace hx253_0 := (HB.out.cell (World.block_lt_of_cell? w _ hx253_0)).trans hx253_0
                        replace p253 := eq_true p253
                        replace q253 := eq_true q253
                        obtain ⟨i061, hi061, _, hsz61, _⟩ := info_parts info5
                        obtain ⟨A61, hcut61, hA61, hC61⟩ := print_mid_of (P := Tryd.prog) (Value.int .u8) 0 31 5 .i64 .i64 Tryd.underlying31 hi061 hsz61 (some ad239) c0 l0 (ji47) (wrap64 (x7_2 + 12)) (of_decide_eq_true (by first | (with_reducible assumption) | assumption)) (by first | omega | exact of_decide_eq_true (by first | (with_reducible assumption) | assumption)) (of_decide_eq_true (by first | (with_reducible assumption) | assumption)) HC0.out
                        have HR254 := Aside0.mk (Kd.C_of_reads (h1 := fun _ => rfl) (hA61 _ (Kd.reads_of_C HR0.out)))
                        have HC254 := Aside0.mk hC61
                        clear hA61 hC61 hi061 hsz61
                        refine start_ (n := 33) (S := fun w' => w'.cell? (ad239.add (x7_2).toNat) = some (.int .u8 (rd l0 x7_2)) ∧ w'.cell? (ad239.add ((ji38)).toNat) = some (.int .u8 (rd l0 (ji38))) ∧ w'.cell? (ad239.add ((ji41)).toNat) = some (.int .u8 (rd l0 (ji41))) ∧ w'.cell? (ad239.add ((ji44)).toNat) = some (.int .u8 (rd l0 (ji44)))) (ds := []) #[false, false, false, false, false, false, false, false, false, false, false, false, false, false, false, false, false, false, false, false, false, false, false, false, false, false, false, false, false, false, false, false, false] (by kernel_rfl) rfl rfl ⟨((HB.out.cell (World.block_lt_of_cell? w _ hw250_0)).trans hw250_0), ((HB.out.cell (World.block_lt_of_cell? w _ hw251_0)).trans hw251_0), ((HB.out.cell (World.block_lt_of_cell? w _ hw252_0)).trans hw252_0), ((HB.out.cell (World.block_lt_of_cell? w _ hw253_0)).trans hw253_0)⟩ (fun hHeld => ?_); refine with_tabW ringroadref26_Decode.tab14 ringroadref26_Decode.bits14 (fun HT_ HW_ => ?_)
                        generalize w59.drew = w60 at HO_6 BK238 BK244 BK249 HB HR254 hx250_0 hx251_0 hx252_0 hx253_0 hHeld ⊢
                        refine pure_ (i := 0) (N := some 73) (v := ?_) (a' := ?_) #[true, false, false, false, false, false, false, false, false, false, false, false, false, false, false, false, false, false, false, false, false, false, false, false, false, false, false, false, false, false, false, false, false] rfl rfl (any_of HT_.out (by kernel_rfl)) (fun _ _ _ h => h) (Or.inl ⟨by rfl, ?_⟩) ?_ ?_
                        rotate_left
                        ·
                         intro w'
                         go_simp
                         with_reducible rfl
                        rotate_left
                        ·
                         simp only [Act.put, List.setIfInBounds_toArray, List.set_cons_zero, List.set_cons_succ, i64_w, i32_w]
                         rfl
                        refine pure_ (i := 1) (N := some 74) (v := ?_) (a' := ?_) #[true, true, false, false, false, false, false, false, false, false, false, false, false, false, false, false, false, false, false, false, false, false, false, false, false, false, false, false, false, false, false, false, false] rfl rfl (any_of HT_.out (by kernel_rfl)) (fun _ _ _ h => h) (Or.inl ⟨by rfl, ?_⟩) ?_ ?_
                        rotate_left
                        ·
                         intro w'
                         go_simp
                         with_reducible rfl
                        rotate_left
                        ·
                         simp only [Act.put, List.setIfInBounds_toArray, List.set_cons_zero, List.set_cons_succ, i64_w, i32_w]
                         rfl
                        refine pure_ (i := 2) (N := some 75) (v := ?_) (a' := ?_) #[true, true, true, false, false, false, false, false, false, false, false, false, false, false, false, false, false, false, false, false, false, false, false, false, false, false, false, false, false, false, false, false, false] rfl rfl (any_of HT_.out (by kernel_rfl)) (fun _ _ _ h => h) (Or.inl ⟨by rfl, ?_⟩) ?_ ?_
                        rotate_left
                        ·
                         intro w'
                         go_simp
                         with_reducible rfl
                        rotate_left
                        ·
                         simp only [Act.put, List.setIfInBounds_toArray, List.set_cons_zero, List.set_cons_succ, i64_w, i32_w]
                         rfl
                        refine pure_ (i := 5) (N := some 78) (v := ?_) (a' := ?_) #[true, true, true, false, false, true, false, false, false, false, false, false, false, false, false, false, false, false, false, false, false, false, false, false, false, false, false, false, false, false, false, false, false] rfl rfl (any_of HT_.out (by kernel_rfl)) (fun _ _ _ h => h) (Or.inl ⟨by rfl, ?_⟩) ?_ ?_
                        rotate_left
                        ·
                         intro w'
                         go_simp
                         with_reducible rfl
                        rotate_left
                        ·
                         simp only [Act.put, List.setIfInBounds_toArray, List.set_cons_zero, List.set_cons_succ, i64_w, i32_w]
                         rfl
                        refine pure_ (i := 6) (N := some 79) (v := ?_) (a' := ?_) #[true, true, true, false, false, true, true, false, false, false, false, false, false, false, false, false, false, false, false, false, false, false, false, false, false, false, false, false, false, false, false, false, false] rfl rfl (any_of HT_.out (by kernel_rfl)) (fun _ _ _ h => h) (Or.inl ⟨by rfl, ?_⟩) ?_ ?_
                        rotate_left
                        ·
                         intro w'
                         go_simp
                         with_reducible rfl
                        rotate_left
                        ·
                         simp only [Act.put, List.setIfInBounds_toArray, List.set_cons_zero, List.set_cons_succ, i64_w, i32_w]
                         rfl
                        refine pure_ (i := 7) (N := some 80) (v := ?_) (a' := ?_) #[true, true, true, false, false, true, true, true, false, false, false, false, false, false, false, false, false, false, false, false, false, false, false, false, false, false, false, false, false, false, false, false, false] rfl rfl (any_of HT_.out (by kernel_rfl)) (fun _ _ _ h => h) (Or.inl ⟨by rfl, ?_⟩) ?_ ?_
                        rotate_left
                        ·
                         intro w'
                         go_simp
                         with_reducible rfl
                        rotate_left
                        ·
                         simp only [Act.put, List.setIfInBounds_toArray, List.set_cons_zero, List.set_cons_succ, i64_w, i32_w]
                         rfl
                        refine pure_ (i := 8) (N := some 81) (v := ?_) (a' := ?_) #[true, true, true, false, false, true, true, true, true, false, false, false, false, false, false, false, false, false, false, false, false, false, false, false, false, false, false, false, false, false, false, false, false] rfl rfl (any_of HT_.out (by kernel_rfl)) (fun _ _ _ h => h) (Or.inl ⟨by rfl, ?_⟩) ?_ ?_
                        rotate_left
                        ·
                         intro w'
                         go_simp
                         with_reducible rfl
                        rotate_left
                        ·
                         simp only [Act.put, List.setIfInBounds_toArray, List.set_cons_zero, List.set_cons_succ, i64_w, i32_w]
                         rfl
                        refine pure_ (i := 11) (N := some 84) (v := ?_) (a' := ?_) #[true, true, true, false, false, true, true, true, true, false, false, true, false, false, false, false, false, false, false, false, false, false, false, false, false, false, false, false, false, false, false, false, false] rfl rfl (any_of HT_.out (by kernel_rfl)) (fun _ _ _ h => h) (Or.inl ⟨by rfl, ?_⟩) ?_ ?_
                        rotate_left
                        ·
                         intro w'
                         go_simp
                         with_reducible rfl
                        rotate_left
                        ·
                         simp only [Act.put, List.setIfInBounds_toArray, List.set_cons_zero, List.set_cons_succ, i64_w, i32_w]
                         rfl
                        refine pure_ (i := 12) (N := some 85) (v := ?_) (a' := ?_) #[true, true, true, false, false, true, true, true, true, false, false, true, true, false, false, false, false, false, false, false, false, false, false, false, false, false, false, false, false, false, false, false, false] rfl rfl (any_of HT_.out (by kernel_rfl)) (fun _ _ _ h => h) (Or.inl ⟨by rfl, ?_⟩) ?_ ?_
                        rotate_left
                        ·
                         intro w'
                         go_simp
                         with_reducible rfl
                        rotate_left
                        ·
                         simp only [Act.put, List.setIfInBounds_toArray, List.set_cons_zero, List.set_cons_succ, i64_w, i32_w]
                         rfl
                        refine pure_ (i := 13) (N := some 86) (v := ?_) (a' := ?_) #[true, true, true, false, false, true, true, true, true, false, false, true, true, true, false, false, false, false, false, false, false, false, false, false, false, false, false, false, false, false, false, false, false] rfl rfl (any_of HT_.out (by kernel_rfl)) (fun _ _ _ h => h) (Or.inl ⟨by rfl, ?_⟩) ?_ ?_
                        rotate_left
                        ·
                         intro w'
                         go_simp
                         with_reducible rfl
                        rotate_left
                        ·
                         simp only [Act.put, List.setIfInBounds_toArray, List.set_cons_zero, List.set_cons_succ, i64_w, i32_w]
                         rfl
                        refine pure_ (i := 14) (N := some 87) (v := ?_) (a' := ?_) #[true, true, true, false, false, true, true, true, true, false, false, true, true, true, true, false, false, false, false, false, false, false, false, false, false, false, false, false, false, false, false, false, false] rfl rfl (any_of HT_.out (by kernel_rfl)) (fun _ _ _ h => h) (Or.inl ⟨by rfl, ?_⟩) ?_ ?_
                        rotate_left
                        ·
                         intro w'
                         go_simp
                         with_reducible rfl
                        rotate_left
                        ·
                         simp only [Act.put, List.setIfInBounds_toArray, List.set_cons_zero, List.set_cons_succ, i64_w, i32_w]
                         rfl
                        refine pure_ (i := 17) (N := some 90) (v := ?_) (a' := ?_) #[true, true, true, false, false, true, true, true, true, false, false, true, true, true, true, false, false, true, false, false, false, false, false, false, false, false, false, false, false, false, false, false, false] rfl rfl (any_of HT_.out (by kernel_rfl)) (fun _ _ _ h => h) (Or.inl ⟨by rfl, ?_⟩) ?_ ?_
                        rotate_left
                        ·
                         intro w'
                         go_simp
                         with_reducible rfl
                        rotate_left
                        ·
                         simp only [Act.put, List.setIfInBounds_toArray, List.set_cons_zero, List.set_cons_succ, i64_w, i32_w]
                         rfl
                        refine pure_ (i := 18) (N := some 91) (v := ?_) (a' := ?_) #[true, true, true, false, false, true, true, true, true, false, false, true, true, true, true, false, false, true, true, false, false, false, false, false, false, false, false, false, false, false, false, false, false] rfl rfl (any_of HT_.out (by kernel_rfl)) (fun _ _ _ h => h) (Or.inl ⟨by rfl, ?_⟩) ?_ ?_
                        rotate_left
                        ·
                         intro w'
                         go_simp
                         with_reducible rfl
                        rotate_left
                        ·
                         simp only [Act.put, List.setIfInBounds_toArray, List.set_cons_zero, List.set_cons_succ, i64_w, i32_w]
                         rfl
                        refine pure_ (i := 19) (N := some 92) (v := ?_) (a' := ?_) #[true, true, true, false, false, true, true, true, true, false, false, true, true, true, true, false, false, true, true, true, false, false, false, false, false, false, false, false, false, false, false, false, false] rfl rfl (any_of HT_.out (by kernel_rfl)) (fun _ _ _ h => h) (Or.inl ⟨by rfl, ?_⟩) ?_ ?_
                        rotate_left
                        ·
                         intro w'
                         go_simp
                         with_reducible rfl
                        rotate_left
                        ·
                         simp only [Act.put, List.setIfInBounds_toArray, List.set_cons_zero, List.set_cons_succ, i64_w, i32_w]
                         rfl
                        refine pure_ (i := 20) (N := some 93) (v := ?_) (a' := ?_) #[true, true, true, false, false, true, true, true, true, false, false, true, true, true, true, false, false, true, true, true, true, false, false, false, false, false, false, false, false, false, false, false, false] rfl rfl (any_of HT_.out (by kernel_rfl)) (fun _ _ _ h => h) (Or.inl ⟨by rfl, ?_⟩) ?_ ?_
                        rotate_left
                        ·
                         intro w'
                         go_simp
                         with_reducible rfl
                        rotate_left
                        ·
                         simp only [Act.put, List.setIfInBounds_toArray, List.set_cons_zero, List.set_cons_succ, i64_w, i32_w]
                         rfl
                        refine pure_ (i := 23) (N := some 96) (v := ?_) (a' := ?_) #[true, true, true, false, false, true, true, true, true, false, false, true, true, true, true, false, false, true, true, true, true, false, false, true, false, false, false, false, false, false, false, false, false] rfl rfl (any_of HT_.out (by kernel_rfl)) (fun _ _ _ h => h) (Or.inl ⟨by rfl, ?_⟩) ?_ ?_
                        rotate_left
                        ·
                         intro w'
                         go_simp
                         with_reducible rfl
                        rotate_left
                        ·
                         simp only [Act.put, List.setIfInBounds_toArray, List.set_cons_zero, List.set_cons_succ, i64_w, i32_w]
                         rfl
                        refine pure_ (i := 24) (N := some 97) (v := ?_) (a' := ?_) #[true, true, true, false, false, true, true, true, true, false, false, true, true, true, true, false, false, true, true, true, true, false, false, true, true, false, false, false, false, false, false, false, false] rfl rfl (any_of HT_.out (by kernel_rfl)) (fun _ _ _ h => h) (Or.inl ⟨by rfl, ?_⟩) ?_ ?_
                        rotate_left
                        ·
                         intro w'
                         go_simp
                         with_reducible rfl
                        rotate_left
                        ·
                         simp only [Act.put, List.setIfInBounds_toArray, List.set_cons_zero, List.set_cons_succ, i64_w, i32_w]
                         rfl
                        refine pure_ (i := 25) (N := some 98) (v := ?_) (a' := ?_) #[true, true, true, false, false, true, true, true, true, false, false, true, true, true, true, false, false, true, true, true, true, false, false, true, true, true, false, false, false, false, false, false, false] rfl rfl (any_of HT_.out (by kernel_rfl)) (fun _ _ _ h => h) (Or.inl ⟨by rfl, ?_⟩) ?_ ?_
                        rotate_left
                        ·
                         intro w'
                         go_simp
                         with_reducible rfl
                        rotate_left
                        ·
                         simp only [Act.put, List.setIfInBounds_toArray, List.set_cons_zero, List.set_cons_succ, i64_w, i32_w]
                         rfl
                        refine pure_ (i := 26) (N := some 99) (v := ?_) (a' := ?_) #[true, true, true, false, false, true, true, true, true, false, false, true, true, true, true, false, false, true, true, true, true, false, false, true, true, true, true, false, false, false, false, false, false] rfl rfl (any_of HT_.out (by kernel_rfl)) (fun _ _ _ h => h) (Or.inl ⟨by rfl, ?_⟩) ?_ ?_
                        rotate_left
                        ·
                         intro w'
                         go_simp
                         with_reducible rfl
                        rotate_left
                        ·
                         simp only [Act.put, List.setIfInBounds_toArray, List.set_cons_zero, List.set_cons_succ, i64_w, i32_w]
                         rfl
                        refine pure_ (i := 27) (N := some 100) (v := ?_) (a' := ?_) #[true, true, true, false, false, true, true, true, true, false, false, true, true, true, true, false, false, true, true, true, true, false, false, true, true, true, true, true, false, false, false, false, false] rfl rfl (any_of HT_.out (by kernel_rfl)) (fun _ _ _ h => h) (Or.inl ⟨by rfl, ?_⟩) ?_ ?_
                        rotate_left
                        ·
                         intro w'
                         go_simp
                         with_reducible rfl
                        rotate_left
                        ·
                         simp only [Act.put, List.setIfInBounds_toArray, List.set_cons_zero, List.set_cons_succ, i64_w, i32_w]
                         rfl
                        refine pure_ (i := 28) (N := some 101) (v := ?_) (a' := ?_) #[true, true, true, false, false, true, true, true, true, false, false, true, true, true, true, false, false, true, true, true, true, false, false, true, true, true, true, true, true, false, false, false, false] rfl rfl (any_of HT_.out (by kernel_rfl)) (fun _ _ _ h => h) (Or.inl ⟨by rfl, ?_⟩) ?_ ?_
                        rotate_left
                        ·
                         intro w'
                         go_simp
                         with_reducible rfl
                        rotate_left
                        ·
                         simp only [Act.put, List.setIfInBounds_toArray, List.set_cons_zero, List.set_cons_succ, i64_w, i32_w]
                         rfl
                        refine take_ (i := 3) (N := some 76) (v := ?_) (a' := ?_) #[true, true, true, true, false, true, true, true, true, false, false, true, true, true, true, false, false, true, true, true, true, false, false, true, true, true, true, true, true, false, false, false, false] rfl rfl (take_ofW HT_.out HW_.out (by kernel_rfl)) (fun _ _ _ h => h) (Or.inl ⟨by rfl, ?_⟩) hHeld ?_ ?_
                        rotate_left
                        ·
                         rintro w' ⟨s0, s1, s2, s3⟩
                         go_simp
                         with_reducible rfl
                        rotate_left
                        ·
                         simp only [Act.put, List.setIfInBounds_toArray, List.set_cons_zero, List.set_cons_succ, i64_w, i32_w]
                         rfl
                        refine pure_ (i := 4) (N := some 77) (v := ?_) (a' := ?_) #[true, true, true, true, true, true, true, true, true, false, false, true, true, true, true, false, false, true, true, true, true, false, false, true, true, true, true, true, true, false, false, false, false] rfl rfl (any_of HT_.out (by kernel_rfl)) (fun _ _ _ h => h) (Or.inl ⟨by rfl, ?_⟩) ?_ ?_
                        rotate_left
                        ·
                         intro w'
                         go_simp
                         with_reducible rfl
                        rotate_left
                        ·
                         simp only [Act.put, List.setIfInBounds_toArray, List.set_cons_zero, List.set_cons_succ, i64_w, i32_w]
                         rfl
                        refine take_ (i := 9) (N := some 82) (v := ?_) (a' := ?_) #[true, true, true, true, true, true, true, true, true, true, false, true, true, true, true, false, false, true, true, true, true, false, false, true, true, true, true, true, true, false, false, false, false] rfl rfl (take_ofW HT_.out HW_.out (by kernel_rfl)) (fun _ _ _ h => h) (Or.inl ⟨by rfl, ?_⟩) hHeld ?_ ?_
                        rotate_left
                        ·
                         rintro w' ⟨s0, s1, s2, s3⟩
                         go_simp
                         with_reducible rfl
                        rotate_left
                        ·
                         simp only [Act.put, List.setIfInBounds_toArray, List.set_cons_zero, List.set_cons_succ, i64_w, i32_w]
                         rfl
                        refine pure_ (i := 10) (N := some 83) (v := ?_) (a' := ?_) #[true, true, true, true, true, true, true, true, true, true, true, true, true, true, true, false, false, true, true, true, true, false, false, true, true, true, true, true, true, false, false, false, false] rfl rfl (any_of HT_.out (by kernel_rfl)) (fun _ _ _ h => h) (Or.inl ⟨by rfl, ?_⟩) ?_ ?_
                        rotate_left
                        ·
                         intro w'
                         go_simp
                         with_reducible rfl
                        rotate_left
                        ·
                         simp only [Act.put, List.setIfInBounds_toArray, List.set_cons_zero, List.set_cons_succ, i64_w, i32_w]
                         rfl
                        refine take_ (i := 15) (N := some 88) (v := ?_) (a' := ?_) #[true, true, true, true, true, true, true, true, true, true, true, true, true, true, true, true, false, true, true, true, true, false, false, true, true, true, true, true, true, false, false, false, false] rfl rfl (take_ofW HT_.out HW_.out (by kernel_rfl)) (fun _ _ _ h => h) (Or.inl ⟨by rfl, ?_⟩) hHeld ?_ ?_
                        rotate_left
                        ·
                         rintro w' ⟨s0, s1, s2, s3⟩
                         go_simp
                         with_reducible rfl
                        rotate_left
                        ·
                         simp only [Act.put, List.setIfInBounds_toArray, List.set_cons_zero, List.set_cons_succ, i64_w, i32_w]
                         rfl
                        refine pure_ (i := 16) (N := some 89) (v := ?_) (a' := ?_) #[true, true, true, true, true, true, true, true, true, true, true, true, true, true, true, true, true, true, true, true, true, false, false, true, true, true, true, true, true, false, false, false, false] rfl rfl (any_of HT_.out (by kernel_rfl)) (fun _ _ _ h => h) (Or.inl ⟨by rfl, ?_⟩) ?_ ?_
                        rotate_left
                        ·
                         intro w'
                         go_simp
                         with_reducible rfl
                        rotate_left
                        ·
                         simp only [Act.put, List.setIfInBounds_toArray, List.set_cons_zero, List.set_cons_succ, i64_w, i32_w]
                         rfl
                        refine take_ (i := 21) (N := some 94) (v := ?_) (a' := ?_) #[true, true, true, true, true, true, true, true, true, true, true, true, true, true, true, true, true, true, true, true, true, true, false, true, true, true, true, true, true, false, false, false, false] rfl rfl (take_ofW HT_.out HW_.out (by kernel_rfl)) (fun _ _ _ h => h) (Or.inl ⟨by rfl, ?_⟩) hHeld ?_ ?_
                        rotate_left
                        ·
                         rintro w' ⟨s0, s1, s2, s3⟩
                         go_simp
                         with_reducible rfl
                        rotate_left
                        ·
                         simp only [Act.put, List.setIfInBounds_toArray, List.set_cons_zero, List.set_cons_succ, i64_w, i32_w]
                         rfl
                        refine pure_ (i := 22) (N := some 95) (v := ?_) (a' := ?_) #[true, true, true, true, true, true, true, true, true, true, true, true, true, true, true, true, true, true, true, true, true, true, true, true, true, true, true, true, true, false, false, false, false] rfl rfl (any_of HT_.out (by kernel_rfl)) (fun _ _ _ h => h) (Or.inl ⟨by rfl, ?_⟩) ?_ ?_
                        rotate_left
                        ·
                         intro w'
                         go_simp
                         with_reducible rfl
                        rotate_left
                        ·
                         simp only [Act.put, List.setIfInBounds_toArray, List.set_cons_zero, List.set_cons_succ, i64_w, i32_w]
                         rfl
                        refine join_ (σ := Nat) 1 #[true, true, true, true, true, true, true, true, true, true, true, true, true, true, true, true, true, true, true, true, true, true, true, true, true, true, true, true, true, true, true, true, false] (fun s_ => [(102, .int .u64 t255), (9, .pointer (some ⟨s_, 0, none⟩)), (103, .agg #[.int .i64 (wrap64 (rd l0 x7_2)), .int .i64 (wrap64 (rd l0 (ji38))), .int .i64 (wrap64 (rd l0 (ji41))), .int .i64 (wrap64 (rd l0 (ji44))), .int .u64 t255])]) (fun s_ w' => (w'.cell? (ad239.add (x7_2).toNat) = some (.int .u8 (rd l0 x7_2)) ∧ w'.cell? (ad239.add ((ji38)).toNat) = some (.int .u8 (rd l0 (ji38))) ∧ w'.cell? (ad239.add ((ji41)).toNat) = some (.int .u8 (rd l0 (ji41))) ∧ w'.cell? (ad239.add ((ji44)).toNat) = some (.int .u8 (rd l0 (ji44)))) ∧ (Kd.R k30 30 w' w.heap.size (fun k_ => k_ ≠ gb249 ∧ k_ ≠ s_) u6 x6_2) ∧ (w'.heap[gb238]? = some (.cells #[.int .i64 0, .int .i64 0, .int .i64 0, .int .i64 0, .int .i64 0] 23 (0, 0))) ∧ (w'.heap[gb244]? = some (.cells #[.int .i64 (wrap64 (rd l0 3)), .int .i64 (wrap64 (rd l0 4)), .int .i64 (wrap64 (rd l0 5)), .int .i64 (wrap64 (rd l0 6)), .int .i64 (wrap64 (rd l0 7))] 23 (0, 0))) ∧ (w'.heap[gb249]? = some (.cells #[.int .i64 0, .int .i64 0, .int .i64 0, .int .i64 0, .int .u64 0] 30 (0, 0))) ∧ (w'.heap[s_]? = some (.cells #[.int .i64 0, .int .i64 0, .int .i64 0, .int .i64 0, .int .u64 0] 30 (0, 0))) ∧ (w.heap.size ≤ s_) ∧ (w.heap.size ≤ s_) ∧ (gb238 ≠ s_) ∧ (s_ ≠ gb238) ∧ (gb244 ≠ s_) ∧ (s_ ≠ gb244) ∧ (gb249 ≠ s_) ∧ (s_ ≠ gb249) ∧ (Below w.heap.size w w')) ?_ ?_
                        rotate_left
                        ·
                         intro hCont
                         refine two_ (i := 29) (j := 31) (Ni := some 102) (Nj := some 9) #[true, true, true, true, true, true, true, true, true, true, true, true, true, true, true, true, true, true, true, true, true, true, true, true, true, true, true, true, true, true, false, false, false] #[true, true, true, true, true, true, true, true, true, true, true, true, true, true, true, true, true, true, true, true, true, true, true, true, true, true, true, true, true, false, false, true, false] rfl rfl rfl rfl (two_of HT_.out (by kernel_rfl)) (by decide) (by decide) (fun K hK => ?_) (fun K hK => ?_)
                         ·
                          skip
                          refine goes_ Tryd.func34 (by kernel_rfl) rfl #[.slice A61 ((l0.take ((wrap64 (x7_2 + 12)) : Int).toNat).drop ((ji47) : Int).toNat).length (c0 - (ji47).toNat)] (by rfl) rfl rfl (by (try simp only [List.map_toArray, List.map_cons, List.map_nil]); first | done | (rw [show ((l0.take ((wrap64 (x7_2 + 12)) : Int).toNat).drop ((ji47) : Int).toNat).length = ((wrap64 (x7_2 + 12)).toNat - (ji47).toNat) from (by rw [List.length_drop, List.length_take]; have h_ : ((wrap64 (x7_2 + 12)) : Int) ≤ (l0.length : Int) := of_decide_eq_true (by first | (with_reducible assumption) | assumption); omega)] <;> rfl) | (simp only [hji47]; rfl) | rfl | (simp only [List.length_drop, List.length_take]; rfl)) ?_
                          with_reducible refine (ringroadref02_Number.calls k2 _ _ ((l0.take ((wrap64 (x7_2 + 12)) : Int).toNat).drop ((ji47) : Int).toNat) t255 _ ?side1 ?side2 A51.out).mono ?_
                          (case side1 => repeat (first | exact (Kd.C_below HR254.out HB.out) | (with_reducible refine Kd.C_alloc ?_ _) | (with_reducible refine Kd.C_drewN ?_ _) | (with_reducible refine Kd.C_drew ?_)))
                          (case side2 => exact HC254.out)
                          rintro e w' ⟨rfl, ⟨nd, rfl⟩⟩
                          refine ⟨_, rfl, ?_⟩
                          refine hK.out _ _ ⟨((HB.out.cell (World.block_lt_of_cell? w _ hw250_0)).trans hw250_0), ((HB.out.cell (World.block_lt_of_cell? w _ hw251_0)).trans hw251_0), ((HB.out.cell (World.block_lt_of_cell? w _ hw252_0)).trans hw252_0), ((HB.out.cell (World.block_lt_of_cell? w _ hw253_0)).trans hw253_0)⟩ (fun hHeld => ?_)
                          clear hK K
                          refine norm_ (a' := ?_) ?_ ?_
                          rotate_left
                          ·
                           show Act.put _ (some 102) _ = _
                           simp only [Act.put, List.setIfInBounds_toArray, List.set_cons_zero, List.set_cons_succ, i64_w, i32_w]
                           rfl
                          refine pure_ (i := 30) (N := some 103) (v := ?_) (a' := ?_) #[true, true, true, true, true, true, true, true, true, true, true, true, true, true, true, true, true, true, true, true, true, true, true, true, true, true, true, true, true, true, true, false, false] rfl rfl (any_of HT_.out (by kernel_rfl)) (fun _ _ _ h => h) (Or.inl ⟨by rfl, ?_⟩) ?_ ?_
                          rotate_left
                          ·
                           intro w'
                           go_simp
                           with_reducible rfl
                          rotate_left
                          ·
                           simp only [Act.put, List.setIfInBounds_toArray, List.set_cons_zero, List.set_cons_succ, i64_w, i32_w]
                           rfl
                          refine one_ (i := 31) (N := some 9) #[true, true, true, true, true, true, true, true, true, true, true, true, true, true, true, true, true, true, true, true, true, true, true, true, true, true, true, true, true, true, true, true, false] rfl rfl (one_of HT_.out (by kernel_rfl)) (by decide) (fun K hK => ?_)
                          refine box_step ?hg (N := 9) ?hd (cs := #[.int .i64 0, .int .i64 0, .int .i64 0, .int .i64 0, .int .u64 0]) (t := 30) ?hr ?_; (case hd => rfl); (case hg => rfl); (case hr => first | (go_simp; done) | (go_simp; rfl))
                          intro gb256 hg w62 hbox hb
                          have n0_ := Aside0.mk (Kd.R_below (Kd.R_elderB (by (with_reducible repeat (first | apply Kd.R_alloc | apply Kd.R_drewN | apply Kd.R_drew)); exact HO_6.out) gb256 (Nat.le_of_eq hg.symm)) hb)
                          have n1_ := Aside0.mk (blk_below (g := gb238) (o := .cells #[.int .i64 0, .int .i64 0, .int .i64 0, .int .i64 0, .int .i64 0] 23 (0, 0)) (by (with_reducible repeat (first | refine blk_drewN ?_ _ | refine blk_drew ?_ | refine blk_alloc ?_ _)); exact BK238.out) hb)
                          have n2_ := Aside0.mk (blk_below (g := gb244) (o := .cells #[.int .i64 (wrap64 (rd l0 3)), .int .i64 (wrap64 (rd l0 4)), .int .i64 (wrap64 (rd l0 5)), .int .i64 (wrap64 (rd l0 6)), .int .i64 (wrap64 (rd l0 7))] 23 (0, 0)) (by (with_reducible repeat (first | refine blk_drewN ?_ _ | refine blk_drew ?_ | refine blk_alloc ?_ _)); exact BK244.out) hb)
                          have n3_ := Aside0.mk (blk_below (g := gb249) (o := .cells #[.int .i64 0, .int .i64 0, .int .i64 0, .int .i64 0, .int .u64 0] 30 (0, 0)) (by (with_reducible repeat (first | refine blk_drewN ?_ _ | refine blk_drew ?_ | refine blk_alloc ?_ _)); exact BK249.out) hb)
                          have n4_ := Aside0.mk (below_step (by repeat (first | (with_reducible first | exact HB.out | apply below_alloc | apply pw_below_drewN | apply below_drew1 | refine below_set ?_ GE238.out | refine below_set ?_ GE244.out | refine below_set ?_ GE249.out) | exact HB.out)) hb)
                          have n5_ := Aside0.mk (hbox)
                          have n6_ := Aside0.mk ((by rw [hg]; exact (below_size (by repeat (first | (with_reducible first | exact HB.out | apply below_alloc | apply pw_below_drewN | apply below_drew1 | refine below_set ?_ GE238.out | refine below_set ?_ GE244.out | refine below_set ?_ GE249.out) | exact HB.out))) : w.heap.size ≤ gb256))
                          have n7_ := Aside0.mk ((by rw [hg]; exact (below_size (by repeat (first | (with_reducible first | exact HB.out | apply below_alloc | apply pw_below_drewN | apply below_drew1 | refine below_set ?_ GE238.out | refine below_set ?_ GE244.out | refine below_set ?_ GE249.out) | exact HB.out))) : w.heap.size ≤ gb256))
                          have n8_ := Aside0.mk ((by rw [hg]; exact Nat.ne_of_lt (blk_lt (g := gb238) (o := .cells #[.int .i64 0, .int .i64 0, .int .i64 0, .int .i64 0, .int .i64 0] 23 (0, 0)) (by (with_reducible repeat (first | refine blk_drewN ?_ _ | refine blk_drew ?_ | refine blk_alloc ?_ _)); exact BK238.out)) : gb238 ≠ gb256))
                          have n9_ := Aside0.mk ((by rw [hg]; exact Nat.ne_of_gt (blk_lt (g := gb238) (o := .cells #[.int .i64 0, .int .i64 0, .int .i64 0, .int .i64 0, .int .i64 0] 23 (0, 0)) (by (with_reducible repeat (first | refine blk_drewN ?_ _ | refine blk_drew ?_ | refine blk_alloc ?_ _)); exact BK238.out)) : gb256 ≠ gb238))
                          have n10_ := Aside0.mk ((by rw [hg]; exact Nat.ne_of_lt (blk_lt (g := gb244) (o := .cells #[.int .i64 (wrap64 (rd l0 3)), .int .i64 (wrap64 (rd l0 4)), .int .i64 (wrap64 (rd l0 5)), .int .i64 (wrap64 (rd l0 6)), .int .i64 (wrap64 (rd l0 7))] 23 (0, 0)) (by (with_reducible repeat (first | refine blk_drewN ?_ _ | refine blk_drew ?_ | refine blk_alloc ?_ _)); exact BK244.out)) : gb244 ≠ gb256))
                          have n11_ := Aside0.mk ((by rw [hg]; exact Nat.ne_of_gt (blk_lt (g := gb244) (o := .cells #[.int .i64 (wrap64 (rd l0 3)), .int .i64 (wrap64 (rd l0 4)), .int .i64 (wrap64 (rd l0 5)), .int .i64 (wrap64 (rd l0 6)), .int .i64 (wrap64 (rd l0 7))] 23 (0, 0)) (by (with_reducible repeat (first | refine blk_drewN ?_ _ | refine blk_drew ?_ | refine blk_alloc ?_ _)); exact BK244.out)) : gb256 ≠ gb244))
                          have n12_ := Aside0.mk ((by rw [hg]; exact Nat.ne_of_lt (blk_lt (g := gb249) (o := .cells #[.int .i64 0, .int .i64 0, .int .i64 0, .int .i64 0, .int .u64 0] 30 (0, 0)) (by (with_reducible repeat (first | refine blk_drewN ?_ _ | refine blk_drew ?_ | refine blk_alloc ?_ _)); exact BK249.out)) : gb249 ≠ gb256))
                          have n13_ := Aside0.mk ((by rw [hg]; exact Nat.ne_of_gt (blk_lt (g := gb249) (o := .cells #[.int .i64 0, .int .i64 0, .int .i64 0, .int .i64 0, .int .u64 0] 30 (0, 0)) (by (with_reducible repeat (first | refine blk_drewN ?_ _ | refine blk_drew ?_ | refine blk_alloc ?_ _)); exact BK249.out)) : gb256 ≠ gb249))
                          clear HO_6
                          clear BK238
                          clear BK244
                          clear BK249
                          clear HB
                          have HO_6 := n0_
                          have BK238 := n1_
                          have BK244 := n2_
                          have BK249 := n3_
                          have HB := n4_
                          have BK256 := n5_
                          have GW256 := n6_
                          have GE256 := n7_
                          have NB238_256 := n8_
                          have NB256_238 := n9_
                          have NB244_256 := n10_
                          have NB256_244 := n11_
                          have NB249_256 := n12_
                          have NB256_249 := n13_
                          clear n0_ n1_ n2_ n3_ n4_ n5_ n6_ n7_ n8_ n9_ n10_ n11_ n12_ n13_
                          clear hb hbox hg
                          refine hK.out _ _ ⟨((HB.out.cell (World.block_lt_of_cell? w _ hw250_0)).trans hw250_0), ((HB.out.cell (World.block_lt_of_cell? w _ hw251_0)).trans hw251_0), ((HB.out.cell (World.block_lt_of_cell? w _ hw252_0)).trans hw252_0), ((HB.out.cell (World.block_lt_of_cell? w _ hw253_0)).trans hw253_0)⟩ (fun hHeld => ?_)
                          clear hK K
                          refine norm_ (a' := ?_) ?_ ?_
                          rotate_left
                          ·
                           show Act.put _ (some 9) _ = _
                           simp only [Act.put, List.setIfInBounds_toArray, List.set_cons_zero, List.set_cons_succ, i64_w, i32_w]
                           rfl
                          exact norm_ (by simp only [putAll, Act.put, List.setIfInBounds_toArray, List.set_cons_zero, List.set_cons_succ]) (hCont (gb256) _ ⟨hHeld, (by (with_reducible repeat (first | apply Kd.R_alloc | apply Kd.R_drewN | apply Kd.R_drew)); exact HO_6.out), (by (with_reducible repeat (first | refine blk_drewN ?_ _ | refine blk_drew ?_ | refine blk_alloc ?_ _)); exact BK238.out), (by (with_reducible repeat (first | refine blk_drewN ?_ _ | refine blk_drew ?_ | refine blk_alloc ?_ _)); exact BK244.out), (by (with_reducible repeat (first | refine blk_drewN ?_ _ | refine blk_drew ?_ | refine blk_alloc ?_ _)); exact BK249.out), (by (with_reducible repeat (first | refine blk_drewN ?_ _ | refine blk_drew ?_ | refine blk_alloc ?_ _)); exact BK256.out), GW256.out, GE256.out, NB238_256.out, NB256_238.out, NB244_256.out, NB256_244.out, NB249_256.out, NB256_249.out, (by repeat (first | (with_reducible first | exact HB.out | apply below_alloc | apply pw_below_drewN | apply below_drew1 | refine below_set ?_ GE238.out | refine below_set ?_ GE244.out | refine below_set ?_ GE249.out | refine below_set ?_ GE256.out) | exact HB.out))⟩)
                         ·
                          skip
                          refine box_step ?hg (N := 9) ?hd (cs := #[.int .i64 0, .int .i64 0, .int .i64 0, .int .i64 0, .int .u64 0]) (t := 30) ?hr ?_; (case hd => rfl); (case hg => rfl); (case hr => first | (go_simp; done) | (go_simp; rfl))
                          intro gb256 hg w62 hbox hb
                          have n0_ := Aside0.mk (Kd.R_below (Kd.R_elderB (by (with_reducible repeat (first | apply Kd.R_alloc | apply Kd.R_drewN | apply Kd.R_drew)); exact HO_6.out) gb256 (Nat.le_of_eq hg.symm)) hb)
                          have n1_ := Aside0.mk (blk_below (g := gb238) (o := .cells #[.int .i64 0, .int .i64 0, .int .i64 0, .int .i64 0, .int .i64 0] 23 (0, 0)) (by (with_reducible repeat (first | refine blk_drewN ?_ _ | refine blk_drew ?_ | refine blk_alloc ?_ _)); exact BK238.out) hb)
                          have n2_ := Aside0.mk (blk_below (g := gb244) (o := .cells #[.int .i64 (wrap64 (rd l0 3)), .int .i64 (wrap64 (rd l0 4)), .int .i64 (wrap64 (rd l0 5)), .int .i64 (wrap64 (rd l0 6)), .int .i64 (wrap64 (rd l0 7))] 23 (0, 0)) (by (with_reducible repeat (first | refine blk_drewN ?_ _ | refine blk_drew ?_ | refine blk_alloc ?_ _)); exact BK244.out) hb)
                          have n3_ := Aside0.mk (blk_below (g := gb249) (o := .cells #[.int .i64 0, .int .i64 0, .int .i64 0, .int .i64 0, .int .u64 0] 30 (0, 0)) (by (with_reducible repeat (first | refine blk_drewN ?_ _ | refine blk_drew ?_ | refine blk_alloc ?_ _)); exact BK249.out) hb)
                          have n4_ := Aside0.mk (below_step (by repeat (first | (with_reducible first | exact HB.out | apply below_alloc | apply pw_below_drewN | apply below_drew1 | refine below_set ?_ GE238.out | refine below_set ?_ GE244.out | refine below_set ?_ GE249.out) | exact HB.out)) hb)
                          have n5_ := Aside0.mk (hbox)
                          have n6_ := Aside0.mk ((by rw [hg]; exact (below_size (by repeat (first | (with_reducible first | exact HB.out | apply below_alloc | apply pw_below_drewN | apply below_drew1 | refine below_set ?_ GE238.out | refine below_set ?_ GE244.out | refine below_set ?_ GE249.out) | exact HB.out))) : w.heap.size ≤ gb256))
                          have n7_ := Aside0.mk ((by rw [hg]; exact (below_size (by repeat (first | (with_reducible first | exact HB.out | apply below_alloc | apply pw_below_drewN | apply below_drew1 | refine below_set ?_ GE238.out | refine below_set ?_ GE244.out | refine below_set ?_ GE249.out) | exact HB.out))) : w.heap.size ≤ gb256))
                          have n8_ := Aside0.mk ((by rw [hg]; exact Nat.ne_of_lt (blk_lt (g := gb238) (o := .cells #[.int .i64 0, .int .i64 0, .int .i64 0, .int .i64 0, .int .i64 0] 23 (0, 0)) (by (with_reducible repeat (first | refine blk_drewN ?_ _ | refine blk_drew ?_ | refine blk_alloc ?_ _)); exact BK238.out)) : gb238 ≠ gb256))
                          have n9_ := Aside0.mk ((by rw [hg]; exact Nat.ne_of_gt (blk_lt (g := gb238) (o := .cells #[.int .i64 0, .int .i64 0, .int .i64 0, .int .i64 0, .int .i64 0] 23 (0, 0)) (by (with_reducible repeat (first | refine blk_drewN ?_ _ | refine blk_drew ?_ | refine blk_alloc ?_ _)); exact BK238.out)) : gb256 ≠ gb238))
                          have n10_ := Aside0.mk ((by rw [hg]; exact Nat.ne_of_lt (blk_lt (g := gb244) (o := .cells #[.int .i64 (wrap64 (rd l0 3)), .int .i64 (wrap64 (rd l0 4)), .int .i64 (wrap64 (rd l0 5)), .int .i64 (wrap64 (rd l0 6)), .int .i64 (wrap64 (rd l0 7))] 23 (0, 0)) (by (with_reducible repeat (first | refine blk_drewN ?_ _ | refine blk_drew ?_ | refine blk_alloc ?_ _)); exact BK244.out)) : gb244 ≠ gb256))
                          have n11_ := Aside0.mk ((by rw [hg]; exact Nat.ne_of_gt (blk_lt (g := gb244) (o := .cells #[.int .i64 (wrap64 (rd l0 3)), .int .i64 (wrap64 (rd l0 4)), .int .i64 (wrap64 (rd l0 5)), .int .i64 (wrap64 (rd l0 6)), .int .i64 (wrap64 (rd l0 7))] 23 (0, 0)) (by (with_reducible repeat (first | refine blk_drewN ?_ _ | refine blk_drew ?_ | refine blk_alloc ?_ _)); exact BK244.out)) : gb256 ≠ gb244))
                          have n12_ := Aside0.mk ((by rw [hg]; exact Nat.ne_of_lt (blk_lt (g := gb249) (o := .cells #[.int .i64 0, .int .i64 0, .int .i64 0, .int .i64 0, .int .u64 0] 30 (0, 0)) (by (with_reducible repeat (first | refine blk_drewN ?_ _ | refine blk_drew ?_ | refine blk_alloc ?_ _)); exact BK249.out)) : gb249 ≠ gb256))
                          have n13_ := Aside0.mk ((by rw [hg]; exact Nat.ne_of_gt (blk_lt (g := gb249) (o := .cells #[.int .i64 0, .int .i64 0, .int .i64 0, .int .i64 0, .int .u64 0] 30 (0, 0)) (by (with_reducible repeat (first | refine blk_drewN ?_ _ | refine blk_drew ?_ | refine blk_alloc ?_ _)); exact BK249.out)) : gb256 ≠ gb249))
                          clear HO_6
                          clear BK238
                          clear BK244
                          clear BK249
                          clear HB
                          have HO_6 := n0_
                          have BK238 := n1_
                          have BK244 := n2_
                          have BK249 := n3_
                          have HB := n4_
                          have BK256 := n5_
                          have GW256 := n6_
                          have GE256 := n7_
                          have NB238_256 := n8_
                          have NB256_238 := n9_
                          have NB244_256 := n10_
                          have NB256_244 := n11_
                          have NB249_256 := n12_
                          have NB256_249 := n13_
                          clear n0_ n1_ n2_ n3_ n4_ n5_ n6_ n7_ n8_ n9_ n10_ n11_ n12_ n13_
                          clear hb hbox hg
                          refine hK.out _ _ ⟨((HB.out.cell (World.block_lt_of_cell? w _ hw250_0)).trans hw250_0), ((HB.out.cell (World.block_lt_of_cell? w _ hw251_0)).trans hw251_0), ((HB.out.cell (World.block_lt_of_cell? w _ hw252_0)).trans hw252_0), ((HB.out.cell (World.block_lt_of_cell? w _ hw253_0)).trans hw253_0)⟩ (fun hHeld => ?_)
                          clear hK K
                          refine norm_ (a' := ?_) ?_ ?_
                          rotate_left
                          ·
                           show Act.put _ (some 9) _ = _
                           simp only [Act.put, List.setIfInBounds_toArray, List.set_cons_zero, List.set_cons_succ, i64_w, i32_w]
                           rfl
                          refine one_ (i := 29) (N := some 102) #[true, true, true, true, true, true, true, true, true, true, true, true, true, true, true, true, true, true, true, true, true, true, true, true, true, true, true, true, true, true, false, true, false] rfl rfl (one_of HT_.out (by kernel_rfl)) (by decide) (fun K hK => ?_)
                          refine goes_ Tryd.func34 (by kernel_rfl) rfl #[.slice A61 ((l0.take ((wrap64 (x7_2 + 12)) : Int).toNat).drop ((ji47) : Int).toNat).length (c0 - (ji47).toNat)] (by rfl) rfl rfl (by (try simp only [List.map_toArray, List.map_cons, List.map_nil]); first | done | (rw [show ((l0.take ((wrap64 (x7_2 + 12)) : Int).toNat).drop ((ji47) : Int).toNat).length = ((wrap64 (x7_2 + 12)).toNat - (ji47).toNat) from (by rw [List.length_drop, List.length_take]; have h_ : ((wrap64 (x7_2 + 12)) : Int) ≤ (l0.length : Int) := of_decide_eq_true (by first | (with_reducible assumption) | assumption); omega)] <;> rfl) | (simp only [hji47]; rfl) | rfl | (simp only [List.length_drop, List.length_take]; rfl)) ?_
                          with_reducible refine (ringroadref02_Number.calls k2 _ _ ((l0.take ((wrap64 (x7_2 + 12)) : Int).toNat).drop ((ji47) : Int).toNat) t255 _ ?side1 ?side2 A51.out).mono ?_
                          (case side1 => repeat (first | exact (Kd.C_below HR254.out HB.out) | (with_reducible refine Kd.C_alloc ?_ _) | (with_reducible refine Kd.C_drewN ?_ _) | (with_reducible refine Kd.C_drew ?_)))
                          (case side2 => exact HC254.out)
                          rintro e w' ⟨rfl, ⟨nd, rfl⟩⟩
                          refine ⟨_, rfl, ?_⟩
                          refine hK.out _ _ ⟨((HB.out.cell (World.block_lt_of_cell? w _ hw250_0)).trans hw250_0), ((HB.out.cell (World.block_lt_of_cell? w _ hw251_0)).trans hw251_0), ((HB.out.cell (World.block_lt_of_cell? w _ hw252_0)).trans hw252_0), ((HB.out.cell (World.block_lt_of_cell? w _ hw253_0)).trans hw253_0)⟩ (fun hHeld => ?_)
                          clear hK K
                          refine norm_ (a' := ?_) ?_ ?_
                          rotate_left
                          ·
                           show Act.put _ (some 102) _ = _
                           simp only [Act.put, List.setIfInBounds_toArray, List.set_cons_zero, List.set_cons_succ, i64_w, i32_w]
                           rfl
                          refine pure_ (i := 30) (N := some 103) (v := ?_) (a' := ?_) #[true, true, true, true, true, true, true, true, true, true, true, true, true, true, true, true, true, true, true, true, true, true, true, true, true, true, true, true, true, true, true, true, false] rfl rfl (any_of HT_.out (by kernel_rfl)) (fun _ _ _ h => h) (Or.inl ⟨by rfl, ?_⟩) ?_ ?_
                          rotate_left
                          ·
                           intro w'
                           go_simp
                           with_reducible rfl
                          rotate_left
                          ·
                           simp only [Act.put, List.setIfInBounds_toArray, List.set_cons_zero, List.set_cons_succ, i64_w, i32_w]
                           rfl
                          exact norm_ (by simp only [putAll, Act.put, List.setIfInBounds_toArray, List.set_cons_zero, List.set_cons_succ]) (hCont (gb256) _ ⟨hHeld, (by (with_reducible repeat (first | apply Kd.R_alloc | apply Kd.R_drewN | apply Kd.R_drew)); exact HO_6.out), (by (with_reducible repeat (first | refine blk_drewN ?_ _ | refine blk_drew ?_ | refine blk_alloc ?_ _)); exact BK238.out), (by (with_reducible repeat (first | refine blk_drewN ?_ _ | refine blk_drew ?_ | refine blk_alloc ?_ _)); exact BK244.out), (by (with_reducible repeat (first | refine blk_drewN ?_ _ | refine blk_drew ?_ | refine blk_alloc ?_ _)); exact BK249.out), (by (with_reducible repeat (first | refine blk_drewN ?_ _ | refine blk_drew ?_ | refine blk_alloc ?_ _)); exact BK256.out), GW256.out, GE256.out, NB238_256.out, NB256_238.out, NB244_256.out, NB256_244.out, NB249_256.out, NB256_249.out, (by repeat (first | (with_reducible first | exact HB.out | apply below_alloc | apply pw_below_drewN | apply below_drew1 | refine below_set ?_ GE238.out | refine below_set ?_ GE244.out | refine below_set ?_ GE249.out | refine below_set ?_ GE256.out) | exact HB.out))⟩)
                        rintro gb256 w63 ⟨hS_, h0_, h1_, h2_, h3_, h4_, h5_, h6_, h7_, h8_, h9_, h10_, h11_, h12_, h13_⟩
                        have n0_ : Aside0 (Kd.R k30 30 w63 w.heap.size (fun k_ => k_ ≠ gb249 ∧ k_ ≠ gb256) u6 x6_2) := ⟨h0_⟩
                        have n1_ : Aside0 (w63.heap[gb238]? = some (.cells #[.int .i64 0, .int .i64 0, .int .i64 0, .int .i64 0, .int .i64 0] 23 (0, 0))) := ⟨h1_⟩
                        have n2_ : Aside0 (w63.heap[gb244]? = some (.cells #[.int .i64 (wrap64 (rd l0 3)), .int .i64 (wrap64 (rd l0 4)), .int .i64 (wrap64 (rd l0 5)), .int .i64 (wrap64 (rd l0 6)), .int .i64 (wrap64 (rd l0 7))] 23 (0, 0))) := ⟨h2_⟩
                        have n3_ : Aside0 (w63.heap[gb249]? = some (.cells #[.int .i64 0, .int .i64 0, .int .i64 0, .int .i64 0, .int .u64 0] 30 (0, 0))) := ⟨h3_⟩
                        have n4_ : Aside0 (w63.heap[gb256]? = some (.cells #[.int .i64 0, .int .i64 0, .int .i64 0, .int .i64 0, .int .u64 0] 30 (0, 0))) := ⟨h4_⟩
                        have n5_ : Aside0 (w.heap.size ≤ gb256) := ⟨h5_⟩
                        have n6_ : Aside0 (w.heap.size ≤ gb256) := ⟨h6_⟩
                        have n7_ : Aside0 (gb238 ≠ gb256) := ⟨h7_⟩
                        have n8_ : Aside0 (gb256 ≠ gb238) := ⟨h8_⟩
                        have n9_ : Aside0 (gb244 ≠ gb256) := ⟨h9_⟩
                        have n10_ : Aside0 (gb256 ≠ gb244) := ⟨h10_⟩
                        have n11_ : Aside0 (gb249 ≠ gb256) := ⟨h11_⟩
                        have n12_ : Aside0 (gb256 ≠ gb249) := ⟨h12_⟩
                        have n13_ : Aside0 (Below w.heap.size w w63) := ⟨h13_⟩
                        clear HO_6
                        clear BK238
                        clear BK244
                        clear BK249
                        clear HB
                        clear h0_ h1_ h2_ h3_ h4_ h5_ h6_ h7_ h8_ h9_ h10_ h11_ h12_ h13_
                        have HO_6 := n0_
                        have BK238 := n1_
                        have BK244 := n2_
                        have BK249 := n3_
                        have BK256 := n4_
                        have GW256 := n5_
                        have GE256 := n6_
                        have NB238_256 := n7_
                        have NB256_238 := n8_
                        have NB244_256 := n9_
                        have NB256_244 := n10_
                        have NB249_256 := n11_
                        have NB256_249 := n12_
                        have HB := n13_
                        clear n0_ n1_ n2_ n3_ n4_ n5_ n6_ n7_ n8_ n9_ n10_ n11_ n12_ n13_
                        have hHeld : w63.cell? (ad239.add (x7_2).toNat) = some (.int .u8 (rd l0 x7_2)) ∧ w63.cell? (ad239.add ((ji38)).toNat) = some (.int .u8 (rd l0 (ji38))) ∧ w63.cell? (ad239.add ((ji41)).toNat) = some (.int .u8 (rd l0 (ji41))) ∧ w63.cell? (ad239.add ((ji44)).toNat) = some (.int .u8 (rd l0 (ji44))) := hS_
                        refine norm_ (a' := ?_) ?_ ?_
                        rotate_left
                        ·
                         simp only [putAll, Act.put, List.setIfInBounds_toArray, List.set_cons_zero, List.set_cons_succ]
                         rfl
                        refine one_ (i := 32) (N := none) #[true, true, true, true, true, true, true, true, true, true, true, true, true, true, true, true, true, true, true, true, true, true, true, true, true, true, true, true, true, true, true, true, true] rfl rfl (one_of HT_.out (by kernel_rfl)) (by decide) (fun K hK => ?_)
                        have hs64 : w63.cell? ⟨gb256, 0, none⟩ = some (.int .i64 0) := (blk_cell BK256.out 0).trans rfl
                        have hfs64 := blk_frozen BK256.out 0
                        have hns64_0 := NB238_256.out
                        have hns64_1 := NB244_256.out
                        have hns64_2 := NB249_256.out
                        have hms64_0 := NB256_238.out
                        have hms64_1 := NB256_244.out
                        have hms64_2 := NB256_249.out
                        have hs65 : w63.cell? ⟨gb256, 1, none⟩ = some (.int .i64 0) := (blk_cell BK256.out 1).trans rfl
                        have hfs65 := blk_frozen BK256.out 1
                        have hns65_0 := NB238_256.out
                        have hns65_1 := NB244_256.out
                        have hns65_2 := NB249_256.out
                        have hms65_0 := NB256_238.out
                        have hms65_1 := NB256_244.out
                        have hms65_2 := NB256_249.out
                        have hs66 : w63.cell? ⟨gb256, 2, none⟩ = some (.int .i64 0) := (blk_cell BK256.out 2).trans rfl
                        have hfs66 := blk_frozen BK256.out 2
                        have hns66_0 := NB238_256.out
                        have hns66_1 := NB244_256.out
                        have hns66_2 := NB249_256.out
                        have hms66_0 := NB256_238.out
                        have hms66_1 := NB256_244.out
                        have hms66_2 := NB256_249.out
                        have hs67 : w63.cell? ⟨gb256, 3, none⟩ = some (.int .i64 0) := (blk_cell BK256.out 3).trans rfl
                        have hfs67 := blk_frozen BK256.out 3
                        have hns67_0 := NB238_256.out
                        have hns67_1 := NB244_256.out
                        have hns67_2 := NB249_256.out
                        have hms67_0 := NB256_238.out
                        have hms67_1 := NB256_244.out
                        have hms67_2 := NB256_249.out
                        have hs68 : w63.cell? ⟨gb256, 4, none⟩ = some (.int .u64 0) := (blk_cell BK256.out 4).trans rfl
                        have hfs68 := blk_frozen BK256.out 4
                        have hns68_0 := NB238_256.out
                        have hns68_1 := NB244_256.out
                        have hns68_2 := NB249_256.out
                        have hms68_0 := NB256_238.out
                        have hms68_1 := NB256_244.out
                        have hms68_2 := NB256_249.out
                        refine skip_ (w1 := ?_) (by rfl) rfl ?_ ?_
                        rotate_left
                        ·
                         go_simp
                         rfl
                        refine hK.out _ _ ⟨((cell_far (p := ⟨gb256, _, none⟩) (by first | exact Nat.ne_of_lt (Nat.lt_of_lt_of_le (by have := World.block_lt_of_cell? _ _ hw250_0; first | rwa [add_block] at this | exact this) GW256.out) | (rw [add_block]; exact Nat.ne_of_lt (Nat.lt_of_lt_of_le (by have := World.block_lt_of_cell? _ _ hw250_0; first | rwa [add_block] at this | exact this) GW256.out)) | (show (Addr.add _ _).block ≠ _; rw [add_block]; exact Nat.ne_of_lt (Nat.lt_of_lt_of_le (by have := World.block_lt_of_cell? _ _ hw250_0; first | rwa [add_block] at this | exact this) GW256.out)) | (dsimp only; exact Nat.ne_of_lt (Nat.lt_of_lt_of_le (by have := World.block_lt_of_cell? _ _ hw250_0; first | rwa [add_block] at this | exact this) GW256.out))) _).trans (((cell_far (p := ⟨gb256, _, none⟩) (by first | exact Nat.ne_of_lt (Nat.lt_of_lt_of_le (by have := World.block_lt_of_cell? _ _ hw250_0; first | rwa [add_block] at this | exact this) GW256.out) | (rw [add_block]; exact Nat.ne_of_lt (Nat.lt_of_lt_of_le (by have := World.block_lt_of_cell? _ _ hw250_0; first | rwa [add_block] at this | exact this) GW256.out)) | (show (Addr.add _ _).block ≠ _; rw [add_block]; exact Nat.ne_of_lt (Nat.lt_of_lt_of_le (by have := World.block_lt_of_cell? _ _ hw250_0; first | rwa [add_block] at this | exact this) GW256.out)) | (dsimp only; exact Nat.ne_of_lt (Nat.lt_of_lt_of_le (by have := World.block_lt_of_cell? _ _ hw250_0; first | rwa [add_block] at this | exact this) GW256.out))) _).trans (((cell_far (p := ⟨gb256, _, none⟩) (by first | exact Nat.ne_of_lt (Nat.lt_of_lt_of_le (by have := World.block_lt_of_cell? _ _ hw250_0; first | rwa [add_block] at this | exact this) GW256.out) | (rw [add_block]; exact Nat.ne_of_lt (Nat.lt_of_lt_of_le (by have := World.block_lt_of_cell? _ _ hw250_0; first | rwa [add_block] at this | exact this) GW256.out)) | (show (Addr.add _ _).block ≠ _; rw [add_block]; exact Nat.ne_of_lt (Nat.lt_of_lt_of_le (by have := World.block_lt_of_cell? _ _ hw250_0; first | rwa [add_block] at this | exact this) GW256.out)) | (dsimp only; exact Nat.ne_of_lt (Nat.lt_of_lt_of_le (by have := World.block_lt_of_cell? _ _ hw250_0; first | rwa [add_block] at this | exact this) GW256.out))) _).trans (((cell_far (p := ⟨gb256, _, none⟩) (by first | exact Nat.ne_of_lt (Nat.lt_of_lt_of_le (by have := World.block_lt_of_cell? _ _ hw250_0; first | rwa [add_block] at this | exact this) GW256.out) | (rw [add_block]; exact Nat.ne_of_lt (Nat.lt_of_lt_of_le (by have := World.block_lt_of_cell? _ _ hw250_0; first | rwa [add_block] at this | exact this) GW256.out)) | (show (Addr.add _ _).block ≠ _; rw [add_block]; exact Nat.ne_of_lt (Nat.lt_of_lt_of_le (by have := World.block_lt_of_cell? _ _ hw250_0; first | rwa [add_block] at this | exact this) GW256.out)) | (dsimp only; exact Nat.ne_of_lt (Nat.lt_of_lt_of_le (by have := World.block_lt_of_cell? _ _ hw250_0; first | rwa [add_block] at this | exact this) GW256.out))) _).trans (((cell_far (p := ⟨gb256, _, none⟩) (by first | exact Nat.ne_of_lt (Nat.lt_of_lt_of_le (by have := World.block_lt_of_cell? _ _ hw250_0; first | rwa [add_block] at this | exact this) GW256.out) | (rw [add_block]; exact Nat.ne_of_lt (Nat.lt_of_lt_of_le (by have := World.block_lt_of_cell? _ _ hw250_0; first | rwa [add_block] at this | exact this) GW256.out)) | (show (Addr.add _ _).block ≠ _; rw [add_block]; exact Nat.ne_of_lt (Nat.lt_of_lt_of_le (by have := World.block_lt_of_cell? _ _ hw250_0; first | rwa [add_block] at this | exact this) GW256.out)) | (dsimp only; exact Nat.ne_of_lt (Nat.lt_of_lt_of_le (by have := World.block_lt_of_cell? _ _ hw250_0; first | rwa [add_block] at this | exact this) GW256.out))) _).trans (hHeld.1)))))))))), ((cell_far (p := ⟨gb256, _, none⟩) (by first | exact Nat.ne_of_lt (Nat.lt_of_lt_of_le (by have := World.block_lt_of_cell? _ _ hw251_0; first | rwa [add_block] at this | exact this) GW256.out) | (rw [add_block]; exact Nat.ne_of_lt (Nat.lt_of_lt_of_le (by have := World.block_lt_of_cell? _ _ hw251_0; first | rwa [add_block] at this | exact this) GW256.out)) | (show (Addr.add _ _).block ≠ _; rw [add_block]; exact Nat.ne_of_lt (Nat.lt_of_lt_of_le (by have := World.block_lt_of_cell? _ _ hw251_0; first | rwa [add_block] at this | exact this) GW256.out)) | (dsimp only; exact Nat.ne_of_lt (Nat.lt_of_lt_of_le (by have := World.block_lt_of_cell? _ _ hw251_0; first | rwa [add_block] at this | exact this) GW256.out))) _).trans (((cell_far (p := ⟨gb256, _, none⟩) (by first | exact Nat.ne_of_lt (Nat.lt_of_lt_of_le (by have := World.block_lt_of_cell? _ _ hw251_0; first | rwa [add_block] at this | exact this) GW256.out) | (rw [add_block]; exact Nat.ne_of_lt (Nat.lt_of_lt_of_le (by have := World.block_lt_of_cell? _ _ hw251_0; first | rwa [add_block] at this | exact this) GW256.out)) | (show (Addr.add _ _).block ≠ _; rw [add_block]; exact Nat.ne_of_lt (Nat.lt_of_lt_of_le (by have := World.block_lt_of_cell? _ _ hw251_0; first | rwa [add_block] at this | exact this) GW256.out)) | (dsimp only; exact Nat.ne_of_lt (Nat.lt_of_lt_of_le (by have := World.block_lt_of_cell? _ _ hw251_0; first | rwa [add_block] at this | exact this) GW256.out))) _).trans (((cell_far (p := ⟨gb256, _, none⟩) (by first | exact Nat.ne_of_lt (Nat.lt_of_lt_of_le (by have := World.block_lt_of_cell? _ _ hw251_0; first | rwa [add_block] at this | exact this) GW256.out) | (rw [add_block]; exact Nat.ne_of_lt (Nat.lt_of_lt_of_le (by have := World.block_lt_of_cell? _ _ hw251_0; first | rwa [add_block] at this | exact this) GW256.out)) | (show (Addr.add _ _).block ≠ _; rw [add_block]; exact Nat.ne_of_lt (Nat.lt_of_lt_of_le (by have := World.block_lt_of_cell? _ _ hw251_0; first | rwa [add_block] at this | exact this) GW256.out)) | (dsimp only; exact Nat.ne_of_lt (Nat.lt_of_lt_of_le (by have := World.block_lt_of_cell? _ _ hw251_0; first | rwa [add_block] at this | exact this) GW256.out))) _).trans (((cell_far (p := ⟨gb256, _, none⟩) (by first | exact Nat.ne_of_lt (Nat.lt_of_lt_of_le (by have := World.block_lt_of_cell? _ _ hw251_0; first | rwa [add_block] at this | exact this) GW256.out) | (rw [add_block]; exact Nat.ne_of_lt (Nat.lt_of_lt_of_le (by have := World.block_lt_of_cell? _ _ hw251_0; first | rwa [add_block] at this | exact this) GW256.out)) | (show (Addr.add _ _).block ≠ _; rw [add_block]; exact Nat.ne_of_lt (Nat.lt_of_lt_of_le (by have := World.block_lt_of_cell? _ _ hw251_0; first | rwa [add_block] at this | exact this) GW256.out)) | (dsimp only; exact Nat.ne_of_lt (Nat.lt_of_lt_of_le (by have := World.block_lt_of_cell? _ _ hw251_0; first | rwa [add_block] at this | exact this) GW256.out))) _).trans (((cell_far (p := ⟨gb256, _, none⟩) (by first | exact Nat.ne_of_lt (Nat.lt_of_lt_of_le (by have := World.block_lt_of_cell? _ _ hw251_0; first | rwa [add_block] at this | exact this) GW256.out) | (rw [add_block]; exact Nat.ne_of_lt (Nat.lt_of_lt_of_le (by have := World.block_lt_of_cell? _ _ hw251_0; first | rwa [add_block] at this | exact this) GW256.out)) | (show (Addr.add _ _).block ≠ _; rw [add_block]; exact Nat.ne_of_lt (Nat.lt_of_lt_of_le (by have := World.block_lt_of_cell? _ _ hw251_0; first | rwa [add_block] at this | exact this) GW256.out)) | (dsimp only; exact Nat.ne_of_lt (Nat.lt_of_lt_of_le (by have := World.block_lt_of_cell? _ _ hw251_0; first | rwa [add_block] at this | exact this) GW256.out))) _).trans (hHeld.2.1)))))))))), ((cell_far (p := ⟨gb256, _, none⟩) (by first | exact Nat.ne_of_lt (Nat.lt_of_lt_of_le (by have := World.block_lt_of_cell? _ _ hw252_0; first | rwa [add_block] at this | exact this) GW256.out) | (rw [add_block]; exact Nat.ne_of_lt (Nat.lt_of_lt_of_le (by have := World.block_lt_of_cell? _ _ hw252_0; first | rwa [add_block] at this | exact this) GW256.out)) | (show (Addr.add _ _).block ≠ _; rw [add_block]; exact Nat.ne_of_lt (Nat.lt_of_lt_of_le (by have := World.block_lt_of_cell? _ _ hw252_0; first | rwa [add_block] at this | exact this) GW256.out)) | (dsimp only; exact Nat.ne_of_lt (Nat.lt_of_lt_of_le (by have := World.block_lt_of_cell? _ _ hw252_0; first | rwa [add_block] at this | exact this) GW256.out))) _).trans (((cell_far (p := ⟨gb256, _, none⟩) (by first | exact Nat.ne_of_lt (Nat.lt_of_lt_of_le (by have := World.block_lt_of_cell? _ _ hw252_0; first | rwa [add_block] at this | exact this) GW256.out) | (rw [add_block]; exact Nat.ne_of_lt (Nat.lt_of_lt_of_le (by have := World.block_lt_of_cell? _ _ hw252_0; first | rwa [add_block] at this | exact this) GW256.out)) | (show (Addr.add _ _).block ≠ _; rw [add_block]; exact Nat.ne_of_lt (Nat.lt_of_lt_of_le (by have := World.block_lt_of_cell? _ _ hw252_0; first | rwa [add_block] at this | exact this) GW256.out)) | (dsimp only; exact Nat.ne_of_lt (Nat.lt_of_lt_of_le (by have := World.block_lt_of_cell? _ _ hw252_0; first | rwa [add_block] at this | exact this) GW256.out))) _).trans (((cell_far (p := ⟨gb256, _, none⟩) (by first | exact Nat.ne_of_lt (Nat.lt_of_lt_of_le (by have := World.block_lt_of_cell? _ _ hw252_0; first | rwa [add_block] at this | exact this) GW256.out) | (rw [add_block]; exact Nat.ne_of_lt (Nat.lt_of_lt_of_le (by have := World.block_lt_of_cell? _ _ hw252_0; first | rwa [add_block] at this | exact this) GW256.out)) | (show (Addr.add _ _).block ≠ _; rw [add_block]; exact Nat.ne_of_lt (Nat.lt_of_lt_of_le (by have := World.block_lt_of_cell? _ _ hw252_0; first | rwa [add_block] at this | exact this) GW256.out)) | (dsimp only; exact Nat.ne_of_lt (Nat.lt_of_lt_of_le (by have := World.block_lt_of_cell? _ _ hw252_0; first | rwa [add_block] at this | exact this) GW256.out))) _).trans (((cell_far (p := ⟨gb256, _, none⟩) (by first | exact Nat.ne_of_lt (Nat.lt_of_lt_of_le (by have := World.block_lt_of_cell? _ _ hw252_0; first | rwa [add_block] at this | exact this) GW256.out) | (rw [add_block]; exact Nat.ne_of_lt (Nat.lt_of_lt_of_le (by have := World.block_lt_of_cell? _ _ hw252_0; first | rwa [add_block] at this | exact this) GW256.out)) | (show (Addr.add _ _).block ≠ _; rw [add_block]; exact Nat.ne_of_lt (Nat.lt_of_lt_of_le (by have := World.block_lt_of_cell? _ _ hw252_0; first | rwa [add_block] at this | exact this) GW256.out)) | (dsimp only; exact Nat.ne_of_lt (Nat.lt_of_lt_of_le (by have := World.block_lt_of_cell? _ _ hw252_0; first | rwa [add_block] at this | exact this) GW256.out))) _).trans (((cell_far (p := ⟨gb256, _, none⟩) (by first | exact Nat.ne_of_lt (Nat.lt_of_lt_of_le (by have := World.block_lt_of_cell? _ _ hw252_0; first | rwa [add_block] at this | exact this) GW256.out) | (rw [add_block]; exact Nat.ne_of_lt (Nat.lt_of_lt_of_le (by have := World.block_lt_of_cell? _ _ hw252_0; first | rwa [add_block] at this | exact this) GW256.out)) | (show (Addr.add _ _).block ≠ _; rw [add_block]; exact Nat.ne_of_lt (Nat.lt_of_lt_of_le (by have := World.block_lt_of_cell? _ _ hw252_0; first | rwa [add_block] at this | exact this) GW256.out)) | (dsimp only; exact Nat.ne_of_lt (Nat.lt_of_lt_of_le (by have := World.block_lt_of_cell? _ _ hw252_0; first | rwa [add_block] at this | exact this) GW256.out))) _).trans (hHeld.2.2.1)))))))))), ((cell_far (p := ⟨gb256, _, none⟩) (by first | exact Nat.ne_of_lt (Nat.lt_of_lt_of_le (by have := World.block_lt_of_cell? _ _ hw253_0; first | rwa [add_block] at this | exact this) GW256.out) | (rw [add_block]; exact Nat.ne_of_lt (Nat.lt_of_lt_of_le (by have := World.block_lt_of_cell? _ _ hw253_0; first | rwa [add_block] at this | exact this) GW256.out)) | (show (Addr.add _ _).block ≠ _; rw [add_block]; exact Nat.ne_of_lt (Nat.lt_of_lt_of_le (by have := World.block_lt_of_cell? _ _ hw253_0; first | rwa [add_block] at this | exact this) GW256.out)) | (dsimp only; exact Nat.ne_of_lt (Nat.lt_of_lt_of_le (by have := World.block_lt_of_cell? _ _ hw253_0; first | rwa [add_block] at this | exact this) GW256.out))) _).trans (((cell_far (p := ⟨gb256, _, none⟩) (by first | exact Nat.ne_of_lt (Nat.lt_of_lt_of_le (by have := World.block_lt_of_cell? _ _ hw253_0; first | rwa [add_block] at this | exact this) GW256.out) | (rw [add_block]; exact Nat.ne_of_lt (Nat.lt_of_lt_of_le (by have := World.block_lt_of_cell? _ _ hw253_0; first | rwa [add_block] at this | exact this) GW256.out)) | (show (Addr.add _ _).block ≠ _; rw [add_block]; exact Nat.ne_of_lt (Nat.lt_of_lt_of_le (by have := World.block_lt_of_cell? _ _ hw253_0; first | rwa [add_block] at this | exact this) GW256.out)) | (dsimp only; exact Nat.ne_of_lt (Nat.lt_of_lt_of_le (by have := World.block_lt_of_cell? _ _ hw253_0; first | rwa [add_block] at this | exact this) GW256.out))) _).trans (((cell_far (p := ⟨gb256, _, none⟩) (by first | exact Nat.ne_of_lt (Nat.lt_of_lt_of_le (by have := World.block_lt_of_cell? _ _ hw253_0; first | rwa [add_block] at this | exact this) GW256.out) | (rw [add_block]; exact Nat.ne_of_lt (Nat.lt_of_lt_of_le (by have := World.block_lt_of_cell? _ _ hw253_0; first | rwa [add_block] at this | exact this) GW256.out)) | (show (Addr.add _ _).block ≠ _; rw [add_block]; exact Nat.ne_of_lt (Nat.lt_of_lt_of_le (by have := World.block_lt_of_cell? _ _ hw253_0; first | rwa [add_block] at this | exact this) GW256.out)) | (dsimp only; exact Nat.ne_of_lt (Nat.lt_of_lt_of_le (by have := World.block_lt_of_cell? _ _ hw253_0; first | rwa [add_block] at this | exact this) GW256.out))) _).trans (((cell_far (p := ⟨gb256, _, none⟩) (by first | exact Nat.ne_of_lt (Nat.lt_of_lt_of_le (by have := World.block_lt_of_cell? _ _ hw253_0; first | rwa [add_block] at this | exact this) GW256.out) | (rw [add_block]; exact Nat.ne_of_lt (Nat.lt_of_lt_of_le (by have := World.block_lt_of_cell? _ _ hw253_0; first | rwa [add_block] at this | exact this) GW256.out)) | (show (Addr.add _ _).block ≠ _; rw [add_block]; exact Nat.ne_of_lt (Nat.lt_of_lt_of_le (by have := World.block_lt_of_cell? _ _ hw253_0; first | rwa [add_block] at this | exact this) GW256.out)) | (dsimp only; exact Nat.ne_of_lt (Nat.lt_of_lt_of_le (by have := World.block_lt_of_cell? _ _ hw253_0; first | rwa [add_block] at this | exact this) GW256.out))) _).trans (((cell_far (p := ⟨gb256, _, none⟩) (by first | exact Nat.ne_of_lt (Nat.lt_of_lt_of_le (by have := World.block_lt_of_cell? _ _ hw253_0; first | rwa [add_block] at this | exact this) GW256.out) | (rw [add_block]; exact Nat.ne_of_lt (Nat.lt_of_lt_of_le (by have := World.block_lt_of_cell? _ _ hw253_0; first | rwa [add_block] at this | exact this) GW256.out)) | (show (Addr.add _ _).block ≠ _; rw [add_block]; exact Nat.ne_of_lt (Nat.lt_of_lt_of_le (by have := World.block_lt_of_cell? _ _ hw253_0; first | rwa [add_block] at this | exact this) GW256.out)) | (dsimp only; exact Nat.ne_of_lt (Nat.lt_of_lt_of_le (by have := World.block_lt_of_cell? _ _ hw253_0; first | rwa [add_block] at this | exact this) GW256.out))) _).trans (hHeld.2.2.2))))))))))⟩ (fun hHeld => ?_)
                        clear hK K
                        refine done_ (done_of HT_.out (by kernel_rfl)) ?_
                        have hnb69 := NB256_238.out
                        have hnc69 := NB238_256.out
                        have hnb70 := NB256_244.out
                        have hnc70 := NB244_256.out
                        have hnb71 := NB256_249.out
                        have hnc71 := NB249_256.out
                        have hcz72_0 : w63.cell? ⟨gb256, 0, none⟩ = some (.int .i64 0) := (blk_cell BK256.out 0).trans rfl
                        have hcz72_1 : w63.cell? ⟨gb256, 1, none⟩ = some (.int .i64 0) := (blk_cell BK256.out 1).trans rfl
                        have hcz72_2 : w63.cell? ⟨gb256, 2, none⟩ = some (.int .i64 0) := (blk_cell BK256.out 2).trans rfl
                        have hcz72_3 : w63.cell? ⟨gb256, 3, none⟩ = some (.int .i64 0) := (blk_cell BK256.out 3).trans rfl
                        have hcz72_4 : w63.cell? ⟨gb256, 4, none⟩ = some (.int .u64 0) := (blk_cell BK256.out 4).trans rfl
                        have hfz72_0 := blk_frozen BK256.out 0
                        have hfz72_1 := blk_frozen BK256.out 1
                        have hfz72_2 := blk_frozen BK256.out 2
                        have hfz72_3 := blk_frozen BK256.out 3
                        have hfz72_4 := blk_frozen BK256.out 4
                        by_cases c53 : t257 = true
                        ·
                         subst c53
                         have H1 : (if x6_2.length < 3518437208883 then (ringroadref26_Decode.l0 k2 l0 (x6_2 ++ [(⟨wrap64 (rd l0 x7_2), wrap64 (rd l0 (ji38)), wrap64 (rd l0 (ji41)), wrap64 (rd l0 (ji44)), t255⟩ : S30)]) (wrap64 (x7_2 + 12)) (wrap64 (rd l0 3)) (wrap64 (rd l0 4)) (wrap64 (rd l0 5)) (wrap64 (rd l0 6)) (wrap64 (rd l0 7))) else (none)) = some (r1, r2, r3, r4, r5, r6, r7) := by rw [if_pos rfl] at H; exact H
                         clear H
                         have H := H1
                         clear H1
                         by_cases c54 : x6_2.length < 3518437208883
                         ·
                          rw [if_pos c54] at H
                          have LMc54 := Aside0.mk c54
                          clear c54
                          obtain ⟨y258, hy258⟩ : ∃ y_ : List (S30), y_ = (x6_2 ++ [(⟨wrap64 (rd l0 x7_2), wrap64 (rd l0 (ji38)), wrap64 (rd l0 (ji41)), wrap64 (rd l0 (ji44)), t255⟩ : S30)]) := ⟨_, rfl⟩
                          replace H : (ringroadref26_Decode.l0 k2 l0 y258 (wrap64 (x7_2 + 12)) (wrap64 (rd l0 3)) (wrap64 (rd l0 4)) (wrap64 (rd l0 5)) (wrap64 (rd l0 6)) (wrap64 (rd l0 7))) = some (r1, r2, r3, r4, r5, r6, r7) := by first | (rw [hy258]; with_reducible exact H) | (have H2_ := (Option.bind_some _ _).symm.trans H; rw [hy258]; with_reducible exact H2_) | (have H2_ := (Option.bind_some _ _).symm.trans H; with_reducible exact H2_) | with_reducible exact H | (rw [hy258]; exact H) | exact H
                          have Ny258 := Aside0.mk hy258
                          clear hy258
                          have H' := Aside0.mk H
                          clear H
                          try go_wp2_with (first | ((with_reducible refine gate_callee (f := 13) rfl ?_); refine goesL_ (some 105) rfl rfl Tryd.func13 (by kernel_rfl) rfl #[.agg #[.int .i64 (wrap64 (rd l0 x7_2)), .int .i64 (wrap64 (rd l0 (ji38))), .int .i64 (wrap64 (rd l0 (ji41))), .int .i64 (wrap64 (rd l0 (ji44))), .int .u64 t255]] rfl (by (try simp only [List.map_toArray, List.map_cons, List.map_nil]); first | done | (simp only [hji38, hji41, hji44]; rfl) | rfl | (simp only [List.length_drop, List.length_take]; rfl)) ?_; (with_reducible refine (ringroadref26_May.calls (wrap64 (rd l0 x7_2)) (wrap64 (rd l0 (ji38))) (wrap64 (rd l0 (ji41))) (wrap64 (rd l0 (ji44))) t255 true _ A52.out).mono ?_); rintro e w73 ⟨rfl, hb⟩; refine ⟨_, rfl, ?_⟩; have n0_ := Aside0.mk (Kd.R_below (by (with_reducible repeat (first | apply Kd.R_alloc | apply Kd.R_drewN | apply Kd.R_drew)); exact (Kd.R_mono (Kd.R_far (p := ⟨gb256, 4, none⟩) (Kd.R_far (p := ⟨gb256, 3, none⟩) (Kd.R_far (p := ⟨gb256, 2, none⟩) (Kd.R_far (p := ⟨gb256, 1, none⟩) (Kd.R_far (p := ⟨gb256, 0, none⟩) (Kd.R_mono HO_6.out (fun k_ hk => (⟨hk, hk.2⟩ : _ ∧ k_ ≠ gb256))) (fun _ hk => hk.2) (.int .i64 (wrap64 (rd l0 x7_2)))) (fun _ hk => hk.2) (.int .i64 (wrap64 (rd l0 (ji38))))) (fun _ hk => hk.2) (.int .i64 (wrap64 (rd l0 (ji41))))) (fun _ hk => hk.2) (.int .i64 (wrap64 (rd l0 (ji44))))) (fun _ hk => hk.2) (.int .u64 t255)) (fun _ h_ => h_.1))) hb); have n1_ := Aside0.mk (blk_below (g := gb238) (o := .cells #[.int .i64 0, .int .i64 0, .int .i64 0, .int .i64 0, .int .i64 0] 23 (0, 0)) (by (with_reducible repeat (first | refine blk_drewN ?_ _ | refine blk_drew ?_ | refine blk_alloc ?_ _)); refine blk_far ?_ NB238_256.out _; (with_reducible repeat (first | refine blk_drewN ?_ _ | refine blk_drew ?_ | refine blk_alloc ?_ _)); refine blk_far ?_ NB238_256.out _; (with_reducible repeat (first | refine blk_drewN ?_ _ | refine blk_drew ?_ | refine blk_alloc ?_ _)); refine blk_far ?_ NB238_256.out _; (with_reducible repeat (first | refine blk_drewN ?_ _ | refine blk_drew ?_ | refine blk_alloc ?_ _)); refine blk_far ?_ NB238_256.out _; (with_reducible repeat (first | refine blk_drewN ?_ _ | refine blk_drew ?_ | refine blk_alloc ?_ _)); refine blk_far ?_ NB238_256.out _; (with_reducible repeat (first | refine blk_drewN ?_ _ | refine blk_drew ?_ | refine blk_alloc ?_ _)); exact BK238.out) hb); have n2_ := Aside0.mk (blk_below (g := gb244) (o := .cells #[.int .i64 (wrap64 (rd l0 3)), .int .i64 (wrap64 (rd l0 4)), .int .i64 (wrap64 (rd l0 5)), .int .i64 (wrap64 (rd l0 6)), .int .i64 (wrap64 (rd l0 7))] 23 (0, 0)) (by (with_reducible repeat (first | refine blk_drewN ?_ _ | refine blk_drew ?_ | refine blk_alloc ?_ _)); refine blk_far ?_ NB244_256.out _; (with_reducible repeat (first | refine blk_drewN ?_ _ | refine blk_drew ?_ | refine blk_alloc ?_ _)); refine blk_far ?_ NB244_256.out _; (with_reducible repeat (first | refine blk_drewN ?_ _ | refine blk_drew ?_ | refine blk_alloc ?_ _)); refine blk_far ?_ NB244_256.out _; (with_reducible repeat (first | refine blk_drewN ?_ _ | refine blk_drew ?_ | refine blk_alloc ?_ _)); refine blk_far ?_ NB244_256.out _; (with_reducible repeat (first | refine blk_drewN ?_ _ | refine blk_drew ?_ | refine blk_alloc ?_ _)); refine blk_far ?_ NB244_256.out _; (with_reducible repeat (first | refine blk_drewN ?_ _ | refine blk_drew ?_ | refine blk_alloc ?_ _)); exact BK244.out) hb); have n3_ := Aside0.mk (blk_below (g := gb249) (o := .cells #[.int .i64 0, .int .i64 0, .int .i64 0, .int .i64 0, .int .u64 0] 30 (0, 0)) (by (with_reducible repeat (first | refine blk_drewN ?_ _ | refine blk_drew ?_ | refine blk_alloc ?_ _)); refine blk_far ?_ NB249_256.out _; (with_reducible repeat (first | refine blk_drewN ?_ _ | refine blk_drew ?_ | refine blk_alloc ?_ _)); refine blk_far ?_ NB249_256.out _; (with_reducible repeat (first | refine blk_drewN ?_ _ | refine blk_drew ?_ | refine blk_alloc ?_ _)); refine blk_far ?_ NB249_256.out _; (with_reducible repeat (first | refine blk_drewN ?_ _ | refine blk_drew ?_ | refine blk_alloc ?_ _)); refine blk_far ?_ NB249_256.out _; (with_reducible repeat (first | refine blk_drewN ?_ _ | refine blk_drew ?_ | refine blk_alloc ?_ _)); refine blk_far ?_ NB249_256.out _; (with_reducible repeat (first | refine blk_drewN ?_ _ | refine blk_drew ?_ | refine blk_alloc ?_ _)); exact BK249.out) hb); have n4_ := Aside0.mk (blk_below (g := gb256) (o := .cells #[.int .i64 (wrap64 (rd l0 x7_2)), .int .i64 (wrap64 (rd l0 (ji38))), .int .i64 (wrap64 (rd l0 (ji41))), .int .i64 (wrap64 (rd l0 (ji44))), .int .u64 t255] 30 (0, 0)) (by (with_reducible repeat (first | refine blk_drewN ?_ _ | refine blk_drew ?_ | refine blk_alloc ?_ _)); refine blk_put (cs := #[.int .i64 (wrap64 (rd l0 x7_2)), .int .i64 (wrap64 (rd l0 (ji38))), .int .i64 (wrap64 (rd l0 (ji41))), .int .i64 (wrap64 (rd l0 (ji44))), .int .u64 0]) ?_ 4 _ rfl; (with_reducible repeat (first | refine blk_drewN ?_ _ | refine blk_drew ?_ | refine blk_alloc ?_ _)); refine blk_put (cs := #[.int .i64 (wrap64 (rd l0 x7_2)), .int .i64 (wrap64 (rd l0 (ji38))), .int .i64 (wrap64 (rd l0 (ji41))), .int .i64 0, .int .u64 0]) ?_ 3 _ rfl; (with_reducible repeat (first | refine blk_drewN ?_ _ | refine blk_drew ?_ | refine blk_alloc ?_ _)); refine blk_put (cs := #[.int .i64 (wrap64 (rd l0 x7_2)), .int .i64 (wrap64 (rd l0 (ji38))), .int .i64 0, .int .i64 0, .int .u64 0]) ?_ 2 _ rfl; (with_reducible repeat (first | refine blk_drewN ?_ _ | refine blk_drew ?_ | refine blk_alloc ?_ _)); refine blk_put (cs := #[.int .i64 (wrap64 (rd l0 x7_2)), .int .i64 0, .int .i64 0, .int .i64 0, .int .u64 0]) ?_ 1 _ rfl; (with_reducible repeat (first | refine blk_drewN ?_ _ | refine blk_drew ?_ | refine blk_alloc ?_ _)); refine blk_put (cs := #[.int .i64 0, .int .i64 0, .int .i64 0, .int .i64 0, .int .u64 0]) ?_ 0 _ rfl; (with_reducible repeat (first | refine blk_drewN ?_ _ | refine blk_drew ?_ | refine blk_alloc ?_ _)); exact BK256.out) hb); have n5_ := Aside0.mk (below_step (by repeat (first | (with_reducible first | exact HB.out | apply below_alloc | apply pw_below_drewN | apply below_drew1 | refine below_set ?_ GE238.out | refine below_set ?_ GE244.out | refine below_set ?_ GE249.out | refine below_set ?_ GE256.out) | exact HB.out)) hb); clear HO_6; clear BK238; clear BK244; clear BK249; clear BK256; clear HB; have HO_6 := n0_; have BK238 := n1_; have BK244 := n2_; have BK249 := n3_; have BK256 := n4_; have HB := n5_; clear n0_ n1_ n2_ n3_ n4_ n5_; (try clear hb); (try clear hb2); (try clear hk); (try clear hi); have hcz74_0 : w73.cell? ⟨gb256, 0, none⟩ = some (.int .i64 (wrap64 (rd l0 x7_2))) := (blk_cell BK256.out 0).trans rfl; have hcz74_1 : w73.cell? ⟨gb256, 1, none⟩ = some (.int .i64 (wrap64 (rd l0 (ji38)))) := (blk_cell BK256.out 1).trans rfl; have hcz74_2 : w73.cell? ⟨gb256, 2, none⟩ = some (.int .i64 (wrap64 (rd l0 (ji41)))) := (blk_cell BK256.out 2).trans rfl; have hcz74_3 : w73.cell? ⟨gb256, 3, none⟩ = some (.int .i64 (wrap64 (rd l0 (ji44)))) := (blk_cell BK256.out 3).trans rfl; have hcz74_4 : w73.cell? ⟨gb256, 4, none⟩ = some (.int .u64 t255) := (blk_cell BK256.out 4).trans rfl; have hfz74_0 := blk_frozen BK256.out 0; have hfz74_1 := blk_frozen BK256.out 1; have hfz74_2 := blk_frozen BK256.out 2; have hfz74_3 := blk_frozen BK256.out 3; have hfz74_4 := blk_frozen BK256.out 4; have hcz75_0 : w73.cell? ⟨gb249, 0, none⟩ = some (.int .i64 0) := (blk_cell BK249.out 0).trans rfl; have hcz75_1 : w73.cell? ⟨gb249, 1, none⟩ = some (.int .i64 0) := (blk_cell BK249.out 1).trans rfl; have hcz75_2 : w73.cell? ⟨gb249, 2, none⟩ = some (.int .i64 0) := (blk_cell BK249.out 2).trans rfl; have hcz75_3 : w73.cell? ⟨gb249, 3, none⟩ = some (.int .i64 0) := (blk_cell BK249.out 3).trans rfl; have hcz75_4 : w73.cell? ⟨gb249, 4, none⟩ = some (.int .u64 0) := (blk_cell BK249.out 4).trans rfl; have hfz75_0 := blk_frozen BK249.out 0; have hfz75_1 := blk_frozen BK249.out 1; have hfz75_2 := blk_frozen BK249.out 2; have hfz75_3 := blk_frozen BK249.out 3; have hfz75_4 := blk_frozen BK249.out 4) | ((with_reducible refine gate_builtin (b := .append) (xs := #[.tmp 107, .tmp 109]) rfl ?_); at_builtin; refine Kd.R_append k30 (w0 := w) w.heap.size rfl (.tmp 107) (.tmp 109) 24 30 (.agg #[(.int .i64 0), (.int .i64 0), (.int .i64 0), (.int .i64 0), (.int .u64 0)]) 40 rfl Tryd.underlying24 info30 rfl (by decide) (by omega) u6 x6_2 (⟨wrap64 (rd l0 x7_2), wrap64 (rd l0 (ji38)), wrap64 (rd l0 (ji41)), wrap64 (rd l0 (ji44)), t255⟩ : S30) [.int .i64 (wrap64 (rd l0 x7_2)), .int .i64 (wrap64 (rd l0 (ji38))), .int .i64 (wrap64 (rd l0 (ji41))), .int .i64 (wrap64 (rd l0 (ji44))), .int .u64 t255] (fun k_ => k_ ≠ gb249 ∧ k_ ≠ gb256) (fun _ => False) rfl (by first | (go_simp; done) | (go_simp; rfl)) ?aP (fun _ hk => hk.elim) ?aF ?aO ?aB ?aS ?aL ?_; (case aP => exact k30_mkM _ _ _ (⟨wrap64 (rd l0 x7_2), wrap64 (rd l0 (ji38)), wrap64 (rd l0 (ji41)), wrap64 (rd l0 (ji44)), t255⟩ : S30)); (case aB => exact (by repeat (first | (with_reducible first | exact HB.out | apply below_alloc | apply pw_below_drewN | apply below_drew1 | refine below_set ?_ GE238.out | refine below_set ?_ GE244.out | refine below_set ?_ GE249.out | refine below_set ?_ GE256.out) | exact HB.out))); (case aF => exact (fun k_ hk => ⟨Kd.freshB (g := gb249) (o := .cells #[.int .i64 (wrap64 (rd l0 x7_2)), .int .i64 (wrap64 (rd l0 (ji38))), .int .i64 (wrap64 (rd l0 (ji41))), .int .i64 (wrap64 (rd l0 (ji44))), .int .u64 t255] 30 (0, 0)) (by (with_reducible repeat (first | refine blk_drewN ?_ _ | refine blk_drew ?_ | refine blk_alloc ?_ _)); refine blk_put (cs := #[.int .i64 (wrap64 (rd l0 x7_2)), .int .i64 (wrap64 (rd l0 (ji38))), .int .i64 (wrap64 (rd l0 (ji41))), .int .i64 (wrap64 (rd l0 (ji44))), .int .u64 0]) ?_ 4 _ rfl; (with_reducible repeat (first | refine blk_drewN ?_ _ | refine blk_drew ?_ | refine blk_alloc ?_ _)); refine blk_put (cs := #[.int .i64 (wrap64 (rd l0 x7_2)), .int .i64 (wrap64 (rd l0 (ji38))), .int .i64 (wrap64 (rd l0 (ji41))), .int .i64 0, .int .u64 0]) ?_ 3 _ rfl; (with_reducible repeat (first | refine blk_drewN ?_ _ | refine blk_drew ?_ | refine blk_alloc ?_ _)); refine blk_put (cs := #[.int .i64 (wrap64 (rd l0 x7_2)), .int .i64 (wrap64 (rd l0 (ji38))), .int .i64 0, .int .i64 0, .int .u64 0]) ?_ 2 _ rfl; (with_reducible repeat (first | refine blk_drewN ?_ _ | refine blk_drew ?_ | refine blk_alloc ?_ _)); refine blk_put (cs := #[.int .i64 (wrap64 (rd l0 x7_2)), .int .i64 0, .int .i64 0, .int .i64 0, .int .u64 0]) ?_ 1 _ rfl; (with_reducible repeat (first | refine blk_drewN ?_ _ | refine blk_drew ?_ | refine blk_alloc ?_ _)); refine blk_put (cs := #[.int .i64 0, .int .i64 0, .int .i64 0, .int .i64 0, .int .u64 0]) ?_ 0 _ rfl; (with_reducible repeat (first | refine blk_drewN ?_ _ | refine blk_drew ?_ | refine blk_alloc ?_ _)); exact BK249.out) k_ hk, Kd.freshB (g := gb256) (o := .cells #[.int .i64 (wrap64 (rd l0 x7_2)), .int .i64 (wrap64 (rd l0 (ji38))), .int .i64 (wrap64 (rd l0 (ji41))), .int .i64 (wrap64 (rd l0 (ji44))), .int .u64 t255] 30 (0, 0)) (by (with_reducible repeat (first | refine blk_drewN ?_ _ | refine blk_drew ?_ | refine blk_alloc ?_ _)); refine blk_far ?_ NB256_249.out _; (with_reducible repeat (first | refine blk_drewN ?_ _ | refine blk_drew ?_ | refine blk_alloc ?_ _)); refine blk_far ?_ NB256_249.out _; (with_reducible repeat (first | refine blk_drewN ?_ _ | refine blk_drew ?_ | refine blk_alloc ?_ _)); refine blk_far ?_ NB256_249.out _; (with_reducible repeat (first | refine blk_drewN ?_ _ | refine blk_drew ?_ | refine blk_alloc ?_ _)); refine blk_far ?_ NB256_249.out _; (with_reducible repeat (first | refine blk_drewN ?_ _ | refine blk_drew ?_ | refine blk_alloc ?_ _)); refine blk_far ?_ NB256_249.out _; (with_reducible repeat (first | refine blk_drewN ?_ _ | refine blk_drew ?_ | refine blk_alloc ?_ _)); exact BK256.out) k_ hk⟩)); (case aO => exact (by (with_reducible repeat (first | apply Kd.R_alloc | apply Kd.R_drewN | apply Kd.R_drew)); exact Kd.R_mono (Kd.R_far (p := ⟨gb249, 4, none⟩) (Kd.R_far (p := ⟨gb249, 3, none⟩) (Kd.R_far (p := ⟨gb249, 2, none⟩) (Kd.R_far (p := ⟨gb249, 1, none⟩) (Kd.R_far (p := ⟨gb249, 0, none⟩) (Kd.R_mono HO_6.out (fun k_ hk => (⟨hk, hk.1⟩ : _ ∧ k_ ≠ gb249))) (fun _ hk => hk.2) (.int .i64 (wrap64 (rd l0 x7_2)))) (fun _ hk => hk.2) (.int .i64 (wrap64 (rd l0 (ji38))))) (fun _ hk => hk.2) (.int .i64 (wrap64 (rd l0 (ji41))))) (fun _ hk => hk.2) (.int .i64 (wrap64 (rd l0 (ji44))))) (fun _ hk => hk.2) (.int .u64 t255)) (fun _ hk => ⟨hk.1.1, hk.1.2⟩))); (case aS => exact (below_size (by repeat (first | (with_reducible first | exact HB.out | apply below_alloc | apply pw_below_drewN | apply below_drew1 | refine below_set ?_ GE238.out | refine below_set ?_ GE244.out | refine below_set ?_ GE249.out | refine below_set ?_ GE256.out) | exact HB.out)))); (case aL => have := LMc54.out; omega); intro v259 w76 ho hb hg hat; rw [← Ny258.out] at ho; have n0_ := Aside0.mk (blk_grown (g := gb238) (o := .cells #[.int .i64 0, .int .i64 0, .int .i64 0, .int .i64 0, .int .i64 0] 23 (0, 0)) (by (with_reducible repeat (first | refine blk_drewN ?_ _ | refine blk_drew ?_ | refine blk_alloc ?_ _)); refine blk_far ?_ NB238_249.out _; (with_reducible repeat (first | refine blk_drewN ?_ _ | refine blk_drew ?_ | refine blk_alloc ?_ _)); refine blk_far ?_ NB238_249.out _; (with_reducible repeat (first | refine blk_drewN ?_ _ | refine blk_drew ?_ | refine blk_alloc ?_ _)); refine blk_far ?_ NB238_249.out _; (with_reducible repeat (first | refine blk_drewN ?_ _ | refine blk_drew ?_ | refine blk_alloc ?_ _)); refine blk_far ?_ NB238_249.out _; (with_reducible repeat (first | refine blk_drewN ?_ _ | refine blk_drew ?_ | refine blk_alloc ?_ _)); refine blk_far ?_ NB238_249.out _; (with_reducible repeat (first | refine blk_drewN ?_ _ | refine blk_drew ?_ | refine blk_alloc ?_ _)); exact BK238.out) hg (Kd.R_ne HO_6.out BK238.out (by decide))); have n1_ := Aside0.mk (blk_grown (g := gb244) (o := .cells #[.int .i64 (wrap64 (rd l0 3)), .int .i64 (wrap64 (rd l0 4)), .int .i64 (wrap64 (rd l0 5)), .int .i64 (wrap64 (rd l0 6)), .int .i64 (wrap64 (rd l0 7))] 23 (0, 0)) (by (with_reducible repeat (first | refine blk_drewN ?_ _ | refine blk_drew ?_ | refine blk_alloc ?_ _)); refine blk_far ?_ NB244_249.out _; (with_reducible repeat (first | refine blk_drewN ?_ _ | refine blk_drew ?_ | refine blk_alloc ?_ _)); refine blk_far ?_ NB244_249.out _; (with_reducible repeat (first | refine blk_drewN ?_ _ | refine blk_drew ?_ | refine blk_alloc ?_ _)); refine blk_far ?_ NB244_249.out _; (with_reducible repeat (first | refine blk_drewN ?_ _ | refine blk_drew ?_ | refine blk_alloc ?_ _)); refine blk_far ?_ NB244_249.out _; (with_reducible repeat (first | refine blk_drewN ?_ _ | refine blk_drew ?_ | refine blk_alloc ?_ _)); refine blk_far ?_ NB244_249.out _; (with_reducible repeat (first | refine blk_drewN ?_ _ | refine blk_drew ?_ | refine blk_alloc ?_ _)); exact BK244.out) hg (Kd.R_ne HO_6.out BK244.out (by decide))); have n2_ := Aside0.mk (blk_grown (g := gb249) (o := .cells #[.int .i64 (wrap64 (rd l0 x7_2)), .int .i64 (wrap64 (rd l0 (ji38))), .int .i64 (wrap64 (rd l0 (ji41))), .int .i64 (wrap64 (rd l0 (ji44))), .int .u64 t255] 30 (0, 0)) (by (with_reducible repeat (first | refine blk_drewN ?_ _ | refine blk_drew ?_ | refine blk_alloc ?_ _)); refine blk_put (cs := #[.int .i64 (wrap64 (rd l0 x7_2)), .int .i64 (wrap64 (rd l0 (ji38))), .int .i64 (wrap64 (rd l0 (ji41))), .int .i64 (wrap64 (rd l0 (ji44))), .int .u64 0]) ?_ 4 _ rfl; (with_reducible repeat (first | refine blk_drewN ?_ _ | refine blk_drew ?_ | refine blk_alloc ?_ _)); refine blk_put (cs := #[.int .i64 (wrap64 (rd l0 x7_2)), .int .i64 (wrap64 (rd l0 (ji38))), .int .i64 (wrap64 (rd l0 (ji41))), .int .i64 0, .int .u64 0]) ?_ 3 _ rfl; (with_reducible repeat (first | refine blk_drewN ?_ _ | refine blk_drew ?_ | refine blk_alloc ?_ _)); refine blk_put (cs := #[.int .i64 (wrap64 (rd l0 x7_2)), .int .i64 (wrap64 (rd l0 (ji38))), .int .i64 0, .int .i64 0, .int .u64 0]) ?_ 2 _ rfl; (with_reducible repeat (first | refine blk_drewN ?_ _ | refine blk_drew ?_ | refine blk_alloc ?_ _)); refine blk_put (cs := #[.int .i64 (wrap64 (rd l0 x7_2)), .int .i64 0, .int .i64 0, .int .i64 0, .int .u64 0]) ?_ 1 _ rfl; (with_reducible repeat (first | refine blk_drewN ?_ _ | refine blk_drew ?_ | refine blk_alloc ?_ _)); refine blk_put (cs := #[.int .i64 0, .int .i64 0, .int .i64 0, .int .i64 0, .int .u64 0]) ?_ 0 _ rfl; (with_reducible repeat (first | refine blk_drewN ?_ _ | refine blk_drew ?_ | refine blk_alloc ?_ _)); exact BK249.out) hg (Kd.R_away HO_6.out (fun _ hk => hk.1))); have n3_ := Aside0.mk (blk_grown (g := gb256) (o := .cells #[.int .i64 (wrap64 (rd l0 x7_2)), .int .i64 (wrap64 (rd l0 (ji38))), .int .i64 (wrap64 (rd l0 (ji41))), .int .i64 (wrap64 (rd l0 (ji44))), .int .u64 t255] 30 (0, 0)) (by (with_reducible repeat (first | refine blk_drewN ?_ _ | refine blk_drew ?_ | refine blk_alloc ?_ _)); refine blk_far ?_ NB256_249.out _; (with_reducible repeat (first | refine blk_drewN ?_ _ | refine blk_drew ?_ | refine blk_alloc ?_ _)); refine blk_far ?_ NB256_249.out _; (with_reducible repeat (first | refine blk_drewN ?_ _ | refine blk_drew ?_ | refine blk_alloc ?_ _)); refine blk_far ?_ NB256_249.out _; (with_reducible repeat (first | refine blk_drewN ?_ _ | refine blk_drew ?_ | refine blk_alloc ?_ _)); refine blk_far ?_ NB256_249.out _; (with_reducible repeat (first | refine blk_drewN ?_ _ | refine blk_drew ?_ | refine blk_alloc ?_ _)); refine blk_far ?_ NB256_249.out _; (with_reducible repeat (first | refine blk_drewN ?_ _ | refine blk_drew ?_ | refine blk_alloc ?_ _)); exact BK256.out) hg (Kd.R_away HO_6.out (fun _ hk => hk.2))); have n4_ := Aside0.mk (hb); have n5_ := Aside0.mk (ho); clear BK238; clear BK244; clear BK249; clear BK256; clear HB; clear HO_6; have BK238 := n0_; have BK244 := n1_; have BK249 := n2_; have BK256 := n3_; have HB := n4_; have HO260 := n5_; clear n0_ n1_ n2_ n3_ n4_ n5_; clear ho hb hg hat))
                          go_roundg k2
                          case measure => have := HJ12.out; have := HK2.out; omega
                          case rel => exact ⟨(y258), (wrap64 (x7_2 + 12)), (by first | rfl | (simp; done) | (simp [*]; done)), H', ⟨by have := HJ12.out; have := HK2.out; omega⟩, ⟨by (with_reducible repeat (first | apply Kd.R_alloc | apply Kd.R_drewN | apply Kd.R_drew)); exact Kd.R_mono HO260.out (fun _ hk => trivial)⟩, ⟨by (with_reducible repeat (first | refine blk_drewN ?_ _ | refine blk_drew ?_ | refine blk_alloc ?_ _)); exact BK238.out⟩, ⟨by (with_reducible repeat (first | refine blk_drewN ?_ _ | refine blk_drew ?_ | refine blk_alloc ?_ _)); exact BK244.out⟩, ⟨by repeat (first | (with_reducible first | exact HB.out | apply below_alloc | apply pw_below_drewN | apply below_drew1 | refine below_set ?_ GE238.out | refine below_set ?_ GE244.out | refine below_set ?_ GE249.out | refine below_set ?_ GE256.out) | exact HB.out)⟩⟩
                         ·
                          rw [if_neg c54] at H
                          exact absurd H (by simp)
                        ·
                         replace c53 := Bool.eq_false_iff.mpr c53
                         subst c53
                         have H1 : (if x6_2.length < 3518437208883 then (ringroadref26_Decode.l0 k2 l0 (x6_2 ++ [(⟨0, 0, 0, 0, 0⟩ : S30)]) (wrap64 (x7_2 + 12)) (wrap64 (rd l0 3)) (wrap64 (rd l0 4)) (wrap64 (rd l0 5)) (wrap64 (rd l0 6)) (wrap64 (rd l0 7))) else (none)) = some (r1, r2, r3, r4, r5, r6, r7) := by rw [if_neg (show ¬ (false = true) by decide)] at H; exact H
                         clear H
                         have H := H1
                         clear H1
                         by_cases c77 : x6_2.length < 3518437208883
                         ·
                          rw [if_pos c77] at H
                          have LMc77 := Aside0.mk c77
                          clear c77
                          obtain ⟨y261, hy261⟩ : ∃ y_ : List (S30), y_ = (x6_2 ++ [(⟨0, 0, 0, 0, 0⟩ : S30)]) := ⟨_, rfl⟩
                          replace H : (ringroadref26_Decode.l0 k2 l0 y261 (wrap64 (x7_2 + 12)) (wrap64 (rd l0 3)) (wrap64 (rd l0 4)) (wrap64 (rd l0 5)) (wrap64 (rd l0 6)) (wrap64 (rd l0 7))) = some (r1, r2, r3, r4, r5, r6, r7) := by first | (rw [hy261]; with_reducible exact H) | (have H2_ := (Option.bind_some _ _).symm.trans H; rw [hy261]; with_reducible exact H2_) | (have H2_ := (Option.bind_some _ _).symm.trans H; with_reducible exact H2_) | with_reducible exact H | (rw [hy261]; exact H) | exact H
                          have Ny261 := Aside0.mk hy261
                          clear hy261
                          have H' := Aside0.mk H
                          clear H
                          try go_wp2_with (first | ((with_reducible refine gate_callee (f := 13) rfl ?_); refine goesL_ (some 105) rfl rfl Tryd.func13 (by kernel_rfl) rfl #[.agg #[.int .i64 (wrap64 (rd l0 x7_2)), .int .i64 (wrap64 (rd l0 (ji38))), .int .i64 (wrap64 (rd l0 (ji41))), .int .i64 (wrap64 (rd l0 (ji44))), .int .u64 t255]] rfl (by (try simp only [List.map_toArray, List.map_cons, List.map_nil]); first | done | (simp only [hji38, hji41, hji44]; rfl) | rfl | (simp only [List.length_drop, List.length_take]; rfl)) ?_; (with_reducible refine (ringroadref26_May.calls (wrap64 (rd l0 x7_2)) (wrap64 (rd l0 (ji38))) (wrap64 (rd l0 (ji41))) (wrap64 (rd l0 (ji44))) t255 false _ A52.out).mono ?_); rintro e w96 ⟨rfl, hb⟩; refine ⟨_, rfl, ?_⟩; have n0_ := Aside0.mk (Kd.R_below (by (with_reducible repeat (first | apply Kd.R_alloc | apply Kd.R_drewN | apply Kd.R_drew)); exact (Kd.R_mono (Kd.R_far (p := ⟨gb256, 4, none⟩) (Kd.R_far (p := ⟨gb256, 3, none⟩) (Kd.R_far (p := ⟨gb256, 2, none⟩) (Kd.R_far (p := ⟨gb256, 1, none⟩) (Kd.R_far (p := ⟨gb256, 0, none⟩) (Kd.R_mono HO_6.out (fun k_ hk => (⟨hk, hk.2⟩ : _ ∧ k_ ≠ gb256))) (fun _ hk => hk.2) (.int .i64 (wrap64 (rd l0 x7_2)))) (fun _ hk => hk.2) (.int .i64 (wrap64 (rd l0 (ji38))))) (fun _ hk => hk.2) (.int .i64 (wrap64 (rd l0 (ji41))))) (fun _ hk => hk.2) (.int .i64 (wrap64 (rd l0 (ji44))))) (fun _ hk => hk.2) (.int .u64 t255)) (fun _ h_ => h_.1))) hb); have n1_ := Aside0.mk (blk_below (g := gb238) (o := .cells #[.int .i64 0, .int .i64 0, .int .i64 0, .int .i64 0, .int .i64 0] 23 (0, 0)) (by (with_reducible repeat (first | refine blk_drewN ?_ _ | refine blk_drew ?_ | refine blk_alloc ?_ _)); refine blk_far ?_ NB238_256.out _; (with_reducible repeat (first | refine blk_drewN ?_ _ | refine blk_drew ?_ | refine blk_alloc ?_ _)); refine blk_far ?_ NB238_256.out _; (with_reducible repeat (first | refine blk_drewN ?_ _ | refine blk_drew ?_ | refine blk_alloc ?_ _)); refine blk_far ?_ NB238_256.out _; (with_reducible repeat (first | refine blk_drewN ?_ _ | refine blk_drew ?_ | refine blk_alloc ?_ _)); refine blk_far ?_ NB238_256.out _; (with_reducible repeat (first | refine blk_drewN ?_ _ | refine blk_drew ?_ | refine blk_alloc ?_ _)); refine blk_far ?_ NB238_256.out _; (with_reducible repeat (first | refine blk_drewN ?_ _ | refine blk_drew ?_ | refine blk_alloc ?_ _)); exact BK238.out) hb); have n2_ := Aside0.mk (blk_below (g := gb244) (o := .cells #[.int .i64 (wrap64 (rd l0 3)), .int .i64 (wrap64 (rd l0 4)), .int .i64 (wrap64 (rd l0 5)), .int .i64 (wrap64 (rd l0 6)), .int .i64 (wrap64 (rd l0 7))] 23 (0, 0)) (by (with_reducible repeat (first | refine blk_drewN ?_ _ | refine blk_drew ?_ | refine blk_alloc ?_ _)); refine blk_far ?_ NB244_256.out _; (with_reducible repeat (first | refine blk_drewN ?_ _ | refine blk_drew ?_ | refine blk_alloc ?_ _)); refine blk_far ?_ NB244_256.out _; (with_reducible repeat (first | refine blk_drewN ?_ _ | refine blk_drew ?_ | refine blk_alloc ?_ _)); refine blk_far ?_ NB244_256.out _; (with_reducible repeat (first | refine blk_drewN ?_ _ | refine blk_drew ?_ | refine blk_alloc ?_ _)); refine blk_far ?_ NB244_256.out _; (with_reducible repeat (first | refine blk_drewN ?_ _ | refine blk_drew ?_ | refine blk_alloc ?_ _)); refine blk_far ?_ NB244_256.out _; (with_reducible repeat (first | refine blk_drewN ?_ _ | refine blk_drew ?_ | refine blk_alloc ?_ _)); exact BK244.out) hb); have n3_ := Aside0.mk (blk_below (g := gb249) (o := .cells #[.int .i64 0, .int .i64 0, .int .i64 0, .int .i64 0, .int .u64 0] 30 (0, 0)) (by (with_reducible repeat (first | refine blk_drewN ?_ _ | refine blk_drew ?_ | refine blk_alloc ?_ _)); refine blk_far ?_ NB249_256.out _; (with_reducible repeat (first | refine blk_drewN ?_ _ | refine blk_drew ?_ | refine blk_alloc ?_ _)); refine blk_far ?_ NB249_256.out _; (with_reducible repeat (first | refine blk_drewN ?_ _ | refine blk_drew ?_ | refine blk_alloc ?_ _)); refine blk_far ?_ NB249_256.out _; (with_reducible repeat (first | refine blk_drewN ?_ _ | refine blk_drew ?_ | refine blk_alloc ?_ _)); refine blk_far ?_ NB249_256.out _; (with_reducible repeat (first | refine blk_drewN ?_ _ | refine blk_drew ?_ | refine blk_alloc ?_ _)); refine blk_far ?_ NB249_256.out _; (with_reducible repeat (first | refine blk_drewN ?_ _ | refine blk_drew ?_ | refine blk_alloc ?_ _)); exact BK249.out) hb); have n4_ := Aside0.mk (blk_below (g := gb256) (o := .cells #[.int .i64 (wrap64 (rd l0 x7_2)), .int .i64 (wrap64 (rd l0 (ji38))), .int .i64 (wrap64 (rd l0 (ji41))), .int .i64 (wrap64 (rd l0 (ji44))), .int .u64 t255] 30 (0, 0)) (by (with_reducible repeat (first | refine blk_drewN ?_ _ | refine blk_drew ?_ | refine blk_alloc ?_ _)); refine blk_put (cs := #[.int .i64 (wrap64 (rd l0 x7_2)), .int .i64 (wrap64 (rd l0 (ji38))), .int .i64 (wrap64 (rd l0 (ji41))), .int .i64 (wrap64 (rd l0 (ji44))), .int .u64 0]) ?_ 4 _ rfl; (with_reducible repeat (first | refine blk_drewN ?_ _ | refine blk_drew ?_ | refine blk_alloc ?_ _)); refine blk_put (cs := #[.int .i64 (wrap64 (rd l0 x7_2)), .int .i64 (wrap64 (rd l0 (ji38))), .int .i64 (wrap64 (rd l0 (ji41))), .int .i64 0, .int .u64 0]) ?_ 3 _ rfl; (with_reducible repeat (first | refine blk_drewN ?_ _ | refine blk_drew ?_ | refine blk_alloc ?_ _)); refine blk_put (cs := #[.int .i64 (wrap64 (rd l0 x7_2)), .int .i64 (wrap64 (rd l0 (ji38))), .int .i64 0, .int .i64 0, .int .u64 0]) ?_ 2 _ rfl; (with_reducible repeat (first | refine blk_drewN ?_ _ | refine blk_drew ?_ | refine blk_alloc ?_ _)); refine blk_put (cs := #[.int .i64 (wrap64 (rd l0 x7_2)), .int .i64 0, .int .i64 0, .int .i64 0, .int .u64 0]) ?_ 1 _ rfl; (with_reducible repeat (first | refine blk_drewN ?_ _ | refine blk_drew ?_ | refine blk_alloc ?_ _)); refine blk_put (cs := #[.int .i64 0, .int .i64 0, .int .i64 0, .int .i64 0, .int .u64 0]) ?_ 0 _ rfl; (with_reducible repeat (first | refine blk_drewN ?_ _ | refine blk_drew ?_ | refine blk_alloc ?_ _)); exact BK256.out) hb); have n5_ := Aside0.mk (below_step (by repeat (first | (with_reducible first | exact HB.out | apply below_alloc | apply pw_below_drewN | apply below_drew1 | refine below_set ?_ GE238.out | refine below_set ?_ GE244.out | refine below_set ?_ GE249.out | refine below_set ?_ GE256.out) | exact HB.out)) hb); clear HO_6; clear BK238; clear BK244; clear BK249; clear BK256; clear HB; have HO_6 := n0_; have BK238 := n1_; have BK244 := n2_; have BK249 := n3_; have BK256 := n4_; have HB := n5_; clear n0_ n1_ n2_ n3_ n4_ n5_; (try clear hb); (try clear hb2); (try clear hk); (try clear hi); have hcz97_0 : w96.cell? ⟨gb249, 0, none⟩ = some (.int .i64 0) := (blk_cell BK249.out 0).trans rfl; have hcz97_1 : w96.cell? ⟨gb249, 1, none⟩ = some (.int .i64 0) := (blk_cell BK249.out 1).trans rfl; have hcz97_2 : w96.cell? ⟨gb249, 2, none⟩ = some (.int .i64 0) := (blk_cell BK249.out 2).trans rfl; have hcz97_3 : w96.cell? ⟨gb249, 3, none⟩ = some (.int .i64 0) := (blk_cell BK249.out 3).trans rfl; have hcz97_4 : w96.cell? ⟨gb249, 4, none⟩ = some (.int .u64 0) := (blk_cell BK249.out 4).trans rfl; have hfz97_0 := blk_frozen BK249.out 0; have hfz97_1 := blk_frozen BK249.out 1; have hfz97_2 := blk_frozen BK249.out 2; have hfz97_3 := blk_frozen BK249.out 3; have hfz97_4 := blk_frozen BK249.out 4) | ((with_reducible refine gate_builtin (b := .append) (xs := #[.tmp 107, .tmp 109]) rfl ?_); at_builtin; refine Kd.R_append k30 (w0 := w) w.heap.size rfl (.tmp 107) (.tmp 109) 24 30 (.agg #[(.int .i64 0), (.int .i64 0), (.int .i64 0), (.int .i64 0), (.int .u64 0)]) 40 rfl Tryd.underlying24 info30 rfl (by decide) (by omega) u6 x6_2 (⟨0, 0, 0, 0, 0⟩ : S30) [.int .i64 0, .int .i64 0, .int .i64 0, .int .i64 0, .int .u64 0] (fun k_ => k_ ≠ gb249 ∧ k_ ≠ gb256) (fun _ => False) rfl rfl ?aP (fun _ hk => hk.elim) ?aF ?aO ?aB ?aS ?aL ?_; (case aP => exact k30_mkM _ _ _ (⟨0, 0, 0, 0, 0⟩ : S30)); (case aB => exact (by repeat (first | (with_reducible first | exact HB.out | apply below_alloc | apply pw_below_drewN | apply below_drew1 | refine below_set ?_ GE238.out | refine below_set ?_ GE244.out | refine below_set ?_ GE249.out | refine below_set ?_ GE256.out) | exact HB.out))); (case aF => exact (fun k_ hk => ⟨Kd.freshB (g := gb249) (o := .cells #[.int .i64 0, .int .i64 0, .int .i64 0, .int .i64 0, .int .u64 0] 30 (0, 0)) (by (with_reducible repeat (first | refine blk_drewN ?_ _ | refine blk_drew ?_ | refine blk_alloc ?_ _)); exact BK249.out) k_ hk, Kd.freshB (g := gb256) (o := .cells #[.int .i64 (wrap64 (rd l0 x7_2)), .int .i64 (wrap64 (rd l0 (ji38))), .int .i64 (wrap64 (rd l0 (ji41))), .int .i64 (wrap64 (rd l0 (ji44))), .int .u64 t255] 30 (0, 0)) (by (with_reducible repeat (first | refine blk_drewN ?_ _ | refine blk_drew ?_ | refine blk_alloc ?_ _)); exact BK256.out) k_ hk⟩)); (case aO => exact (by (with_reducible repeat (first | apply Kd.R_alloc | apply Kd.R_drewN | apply Kd.R_drew)); exact HO_6.out)); (case aS => exact (below_size (by repeat (first | (with_reducible first | exact HB.out | apply below_alloc | apply pw_below_drewN | apply below_drew1 | refine below_set ?_ GE238.out | refine below_set ?_ GE244.out | refine below_set ?_ GE249.out | refine below_set ?_ GE256.out) | exact HB.out)))); (case aL => have := LMc77.out; omega); intro v262 w98 ho hb hg hat; rw [← Ny261.out] at ho; have n0_ := Aside0.mk (blk_grown (g := gb238) (o := .cells #[.int .i64 0, .int .i64 0, .int .i64 0, .int .i64 0, .int .i64 0] 23 (0, 0)) (by (with_reducible repeat (first | refine blk_drewN ?_ _ | refine blk_drew ?_ | refine blk_alloc ?_ _)); exact BK238.out) hg (Kd.R_ne HO_6.out BK238.out (by decide))); have n1_ := Aside0.mk (blk_grown (g := gb244) (o := .cells #[.int .i64 (wrap64 (rd l0 3)), .int .i64 (wrap64 (rd l0 4)), .int .i64 (wrap64 (rd l0 5)), .int .i64 (wrap64 (rd l0 6)), .int .i64 (wrap64 (rd l0 7))] 23 (0, 0)) (by (with_reducible repeat (first | refine blk_drewN ?_ _ | refine blk_drew ?_ | refine blk_alloc ?_ _)); exact BK244.out) hg (Kd.R_ne HO_6.out BK244.out (by decide))); have n2_ := Aside0.mk (blk_grown (g := gb249) (o := .cells #[.int .i64 0, .int .i64 0, .int .i64 0, .int .i64 0, .int .u64 0] 30 (0, 0)) (by (with_reducible repeat (first | refine blk_drewN ?_ _ | refine blk_drew ?_ | refine blk_alloc ?_ _)); exact BK249.out) hg (Kd.R_away HO_6.out (fun _ hk => hk.1))); have n3_ := Aside0.mk (blk_grown (g := gb256) (o := .cells #[.int .i64 (wrap64 (rd l0 x7_2)), .int .i64 (wrap64 (rd l0 (ji38))), .int .i64 (wrap64 (rd l0 (ji41))), .int .i64 (wrap64 (rd l0 (ji44))), .int .u64 t255] 30 (0, 0)) (by (with_reducible repeat (first | refine blk_drewN ?_ _ | refine blk_drew ?_ | refine blk_alloc ?_ _)); exact BK256.out) hg (Kd.R_away HO_6.out (fun _ hk => hk.2))); have n4_ := Aside0.mk (hb); have n5_ := Aside0.mk (ho); clear BK238; clear BK244; clear BK249; clear BK256; clear HB; clear HO_6; have BK238 := n0_; have BK244 := n1_; have BK249 := n2_; have BK256 := n3_; have HB := n4_; have HO263 := n5_; clear n0_ n1_ n2_ n3_ n4_ n5_; clear ho hb hg hat))
                          go_roundg k2
                          case measure => have := HJ12.out; have := HK2.out; omega
                          case rel => exact ⟨(y261), (wrap64 (x7_2 + 12)), (by first | rfl | (simp; done) | (simp [*]; done)), H', ⟨by have := HJ12.out; have := HK2.out; omega⟩, ⟨by (with_reducible repeat (first | apply Kd.R_alloc | apply Kd.R_drewN | apply Kd.R_drew)); exact Kd.R_mono HO263.out (fun _ hk => trivial)⟩, ⟨by (with_reducible repeat (first | refine blk_drewN ?_ _ | refine blk_drew ?_ | refine blk_alloc ?_ _)); exact BK238.out⟩, ⟨by (with_reducible repeat (first | refine blk_drewN ?_ _ | refine blk_drew ?_ | refine blk_alloc ?_ _)); exact BK244.out⟩, ⟨by repeat (first | (with_reducible first | exact HB.out | apply below_alloc | apply pw_below_drewN | apply below_drew1 | refine below_set ?_ GE238.out | refine below_set ?_ GE244.out | refine below_set ?_ GE249.out | refine below_set ?_ GE256.out) | exact HB.out)⟩⟩
                         ·
                          rw [if_neg c77] at H
                          exact absurd H (by simp)
                       ·
                        rw [if_neg c49] at H
                        exact absurd H (by simp)
                      ·
                       rw [if_neg c48] at H
                       exact absurd H (by simp)
                     ·
                      rw [if_neg c46] at H
                      exact absurd H (by simp)
                    ·
                     rw [if_neg c45] at H
                     exact absurd H (by simp)
                   ·
                    rw [if_neg c43] at H
                    exact absurd H (by simp)
                  ·
                   rw [if_neg c42] at H
                   exact absurd H (by simp)
                 ·
                  rw [if_neg c40] at H
                  exact absurd H (by simp)
                ·
                 rw [if_neg c39] at H
                 exact absurd H (by simp)
               ·
                rw [if_neg c37] at H
                exact absurd H (by simp)
              ·
               rw [if_neg c36] at H
               have c36b0 : decide ((wrap64 (x7_2 + 12)) ≤ (l0.length : Int)) = false := decide_eq_false c36
               clear c36
               by_cases c99 : x6_2.length < 3518437208883
               ·
                rw [if_pos c99] at H
                have LMc99 := Aside0.mk c99
                clear c99
                obtain ⟨y264, hy264⟩ : ∃ y_ : List (S30), y_ = (x6_2 ++ [(⟨0, 0, 0, 0, 0⟩ : S30)]) := ⟨_, rfl⟩
                replace H : (ringroadref26_Decode.l0 k2 l0 y264 (wrap64 (x7_2 + 12)) (wrap64 (rd l0 3)) (wrap64 (rd l0 4)) (wrap64 (rd l0 5)) (wrap64 (rd l0 6)) (wrap64 (rd l0 7))) = some (r1, r2, r3, r4, r5, r6, r7) := by first | (rw [hy264]; with_reducible exact H) | (have H2_ := (Option.bind_some _ _).symm.trans H; rw [hy264]; with_reducible exact H2_) | (have H2_ := (Option.bind_some _ _).symm.trans H; with_reducible exact H2_) | with_reducible exact H | (rw [hy264]; exact H) | exact H
                have Ny264 := Aside0.mk hy264
                clear hy264
                have H' := Aside0.mk H
                clear H
                go_wp2_with (first | ((with_reducible refine gate_dst (N := 8) rfl ?_); refine box_event ?hg (N := 8) ?hd (cs := #[.int .i64 0, .int .i64 0, .int .i64 0, .int .i64 0, .int .u64 0]) (t := 30) ?hr ?_; (case hd => rfl); (case hg => rfl); (case hr => first | (go_simp; done) | (go_simp; rfl)); intro gb249 hg w100 hbox hb; have n0_ := Aside0.mk (Kd.R_below (Kd.R_elderB (by (with_reducible repeat (first | apply Kd.R_alloc | apply Kd.R_drewN | apply Kd.R_drew)); exact HO_6.out) gb249 (Nat.le_of_eq hg.symm)) hb); have n1_ := Aside0.mk (blk_below (g := gb238) (o := .cells #[.int .i64 0, .int .i64 0, .int .i64 0, .int .i64 0, .int .i64 0] 23 (0, 0)) (by (with_reducible repeat (first | refine blk_drewN ?_ _ | refine blk_drew ?_ | refine blk_alloc ?_ _)); exact BK238.out) hb); have n2_ := Aside0.mk (blk_below (g := gb244) (o := .cells #[.int .i64 (wrap64 (rd l0 3)), .int .i64 (wrap64 (rd l0 4)), .int .i64 (wrap64 (rd l0 5)), .int .i64 (wrap64 (rd l0 6)), .int .i64 (wrap64 (rd l0 7))] 23 (0, 0)) (by (with_reducible repeat (first | refine blk_drewN ?_ _ | refine blk_drew ?_ | refine blk_alloc ?_ _)); exact BK244.out) hb); have n3_ := Aside0.mk (below_step (by repeat (first | (with_reducible first | exact HB.out | apply below_alloc | apply pw_below_drewN | apply below_drew1 | refine below_set ?_ GE238.out | refine below_set ?_ GE244.out) | exact HB.out)) hb); have n4_ := Aside0.mk (hbox); have n5_ := Aside0.mk ((by rw [hg]; exact (below_size (by repeat (first | (with_reducible first | exact HB.out | apply below_alloc | apply pw_below_drewN | apply below_drew1 | refine below_set ?_ GE238.out | refine below_set ?_ GE244.out) | exact HB.out))) : w.heap.size ≤ gb249)); have n6_ := Aside0.mk ((by rw [hg]; exact (below_size (by repeat (first | (with_reducible first | exact HB.out | apply below_alloc | apply pw_below_drewN | apply below_drew1 | refine below_set ?_ GE238.out | refine below_set ?_ GE244.out) | exact HB.out))) : w.heap.size ≤ gb249)); have n7_ := Aside0.mk ((by rw [hg]; exact Nat.ne_of_lt (blk_lt (g := gb238) (o := .cells #[.int .i64 0, .int .i64 0, .int .i64 0, .int .i64 0, .int .i64 0] 23 (0, 0)) (by (with_reducible repeat (first | refine blk_drewN ?_ _ | refine blk_drew ?_ | refine blk_alloc ?_ _)); exact BK238.out)) : gb238 ≠ gb249)); have n8_ := Aside0.mk ((by rw [hg]; exact Nat.ne_of_gt (blk_lt (g := gb238) (o := .cells #[.int .i64 0, .int .i64 0, .int .i64 0, .int .i64 0, .int .i64 0] 23 (0, 0)) (by (with_reducible repeat (first | refine blk_drewN ?_ _ | refine blk_drew ?_ | refine blk_alloc ?_ _)); exact BK238.out)) : gb249 ≠ gb238)); have n9_ := Aside0.mk ((by rw [hg]; exact Nat.ne_of_lt (blk_lt (g := gb244) (o := .cells #[.int .i64 (wrap64 (rd l0 3)), .int .i64 (wrap64 (rd l0 4)), .int .i64 (wrap64 (rd l0 5)), .int .i64 (wrap64 (rd l0 6)), .int .i64 (wrap64 (rd l0 7))] 23 (0, 0)) (by (with_reducible repeat (first | refine blk_drewN ?_ _ | refine blk_drew ?_ | refine blk_alloc ?_ _)); exact BK244.out)) : gb244 ≠ gb249)); have n10_ := Aside0.mk ((by rw [hg]; exact Nat.ne_of_gt (blk_lt (g := gb244) (o := .cells #[.int .i64 (wrap64 (rd l0 3)), .int .i64 (wrap64 (rd l0 4)), .int .i64 (wrap64 (rd l0 5)), .int .i64 (wrap64 (rd l0 6)), .int .i64 (wrap64 (rd l0 7))] 23 (0, 0)) (by (with_reducible repeat (first | refine blk_drewN ?_ _ | refine blk_drew ?_ | refine blk_alloc ?_ _)); exact BK244.out)) : gb249 ≠ gb244)); clear HO_6; clear BK238; clear BK244; clear HB; have HO_6 := n0_; have BK238 := n1_; have BK244 := n2_; have HB := n3_; have BK249 := n4_; have GW249 := n5_; have GE249 := n6_; have NB238_249 := n7_; have NB249_238 := n8_; have NB244_249 := n9_; have NB249_244 := n10_; clear n0_ n1_ n2_ n3_ n4_ n5_ n6_ n7_ n8_ n9_ n10_; clear hb hbox hg; have hnb101 := NB249_238.out; have hnc101 := NB238_249.out; have hnb102 := NB249_244.out; have hnc102 := NB244_249.out; have hcz103_0 : w100.cell? ⟨gb249, 0, none⟩ = some (.int .i64 0) := (blk_cell BK249.out 0).trans rfl; have hcz103_1 : w100.cell? ⟨gb249, 1, none⟩ = some (.int .i64 0) := (blk_cell BK249.out 1).trans rfl; have hcz103_2 : w100.cell? ⟨gb249, 2, none⟩ = some (.int .i64 0) := (blk_cell BK249.out 2).trans rfl; have hcz103_3 : w100.cell? ⟨gb249, 3, none⟩ = some (.int .i64 0) := (blk_cell BK249.out 3).trans rfl; have hcz103_4 : w100.cell? ⟨gb249, 4, none⟩ = some (.int .u64 0) := (blk_cell BK249.out 4).trans rfl; have hfz103_0 := blk_frozen BK249.out 0; have hfz103_1 := blk_frozen BK249.out 1; have hfz103_2 := blk_frozen BK249.out 2; have hfz103_3 := blk_frozen BK249.out 3; have hfz103_4 := blk_frozen BK249.out 4) | ((with_reducible refine gate_builtin (b := .append) (xs := #[.tmp 107, .tmp 109]) rfl ?_); at_builtin; refine Kd.R_append k30 (w0 := w) w.heap.size rfl (.tmp 107) (.tmp 109) 24 30 (.agg #[(.int .i64 0), (.int .i64 0), (.int .i64 0), (.int .i64 0), (.int .u64 0)]) 40 rfl Tryd.underlying24 info30 rfl (by decide) (by omega) u6 x6_2 (⟨0, 0, 0, 0, 0⟩ : S30) [.int .i64 0, .int .i64 0, .int .i64 0, .int .i64 0, .int .u64 0] (fun k_ => k_ ≠ gb249) (fun _ => False) rfl (by first | (go_simp; done) | (go_simp; rfl)) ?aP (fun _ hk => hk.elim) ?aF ?aO ?aB ?aS ?aL ?_; (case aP => exact k30_mkM _ _ _ (⟨0, 0, 0, 0, 0⟩ : S30)); (case aB => exact (by repeat (first | (with_reducible first | exact HB.out | apply below_alloc | apply pw_below_drewN | apply below_drew1 | refine below_set ?_ GE238.out | refine below_set ?_ GE244.out | refine below_set ?_ GE249.out) | exact HB.out))); (case aF => exact (fun k_ hk => Kd.freshB (g := gb249) (o := .cells #[.int .i64 0, .int .i64 0, .int .i64 0, .int .i64 0, .int .u64 0] 30 (0, 0)) (by (with_reducible repeat (first | refine blk_drewN ?_ _ | refine blk_drew ?_ | refine blk_alloc ?_ _)); refine blk_put (cs := #[.int .i64 0, .int .i64 0, .int .i64 0, .int .i64 0, .int .u64 0]) ?_ 4 _ rfl; (with_reducible repeat (first | refine blk_drewN ?_ _ | refine blk_drew ?_ | refine blk_alloc ?_ _)); refine blk_put (cs := #[.int .i64 0, .int .i64 0, .int .i64 0, .int .i64 0, .int .u64 0]) ?_ 3 _ rfl; (with_reducible repeat (first | refine blk_drewN ?_ _ | refine blk_drew ?_ | refine blk_alloc ?_ _)); refine blk_put (cs := #[.int .i64 0, .int .i64 0, .int .i64 0, .int .i64 0, .int .u64 0]) ?_ 2 _ rfl; (with_reducible repeat (first | refine blk_drewN ?_ _ | refine blk_drew ?_ | refine blk_alloc ?_ _)); refine blk_put (cs := #[.int .i64 0, .int .i64 0, .int .i64 0, .int .i64 0, .int .u64 0]) ?_ 1 _ rfl; (with_reducible repeat (first | refine blk_drewN ?_ _ | refine blk_drew ?_ | refine blk_alloc ?_ _)); refine blk_put (cs := #[.int .i64 0, .int .i64 0, .int .i64 0, .int .i64 0, .int .u64 0]) ?_ 0 _ rfl; (with_reducible repeat (first | refine blk_drewN ?_ _ | refine blk_drew ?_ | refine blk_alloc ?_ _)); exact BK249.out) k_ hk)); (case aO => exact (by (with_reducible repeat (first | apply Kd.R_alloc | apply Kd.R_drewN | apply Kd.R_drew)); exact Kd.R_mono (Kd.R_far (p := ⟨gb249, 4, none⟩) (Kd.R_far (p := ⟨gb249, 3, none⟩) (Kd.R_far (p := ⟨gb249, 2, none⟩) (Kd.R_far (p := ⟨gb249, 1, none⟩) (Kd.R_far (p := ⟨gb249, 0, none⟩) (Kd.R_mono HO_6.out (fun k_ hk => (⟨hk, hk.2⟩ : _ ∧ k_ ≠ gb249))) (fun _ hk => hk.2) (.int .i64 0)) (fun _ hk => hk.2) (.int .i64 0)) (fun _ hk => hk.2) (.int .i64 0)) (fun _ hk => hk.2) (.int .i64 0)) (fun _ hk => hk.2) (.int .u64 0)) (fun _ hk => hk.1.2))); (case aS => exact (below_size (by repeat (first | (with_reducible first | exact HB.out | apply below_alloc | apply pw_below_drewN | apply below_drew1 | refine below_set ?_ GE238.out | refine below_set ?_ GE244.out | refine below_set ?_ GE249.out) | exact HB.out)))); (case aL => have := LMc99.out; omega); intro v265 w104 ho hb hg hat; rw [← Ny264.out] at ho; have n0_ := Aside0.mk (blk_grown (g := gb238) (o := .cells #[.int .i64 0, .int .i64 0, .int .i64 0, .int .i64 0, .int .i64 0] 23 (0, 0)) (by (with_reducible repeat (first | refine blk_drewN ?_ _ | refine blk_drew ?_ | refine blk_alloc ?_ _)); refine blk_far ?_ NB238_249.out _; (with_reducible repeat (first | refine blk_drewN ?_ _ | refine blk_drew ?_ | refine blk_alloc ?_ _)); refine blk_far ?_ NB238_249.out _; (with_reducible repeat (first | refine blk_drewN ?_ _ | refine blk_drew ?_ | refine blk_alloc ?_ _)); refine blk_far ?_ NB238_249.out _; (with_reducible repeat (first | refine blk_drewN ?_ _ | refine blk_drew ?_ | refine blk_alloc ?_ _)); refine blk_far ?_ NB238_249.out _; (with_reducible repeat (first | refine blk_drewN ?_ _ | refine blk_drew ?_ | refine blk_alloc ?_ _)); refine blk_far ?_ NB238_249.out _; (with_reducible repeat (first | refine blk_drewN ?_ _ | refine blk_drew ?_ | refine blk_alloc ?_ _)); exact BK238.out) hg (Kd.R_ne HO_6.out BK238.out (by decide))); have n1_ := Aside0.mk (blk_grown (g := gb244) (o := .cells #[.int .i64 (wrap64 (rd l0 3)), .int .i64 (wrap64 (rd l0 4)), .int .i64 (wrap64 (rd l0 5)), .int .i64 (wrap64 (rd l0 6)), .int .i64 (wrap64 (rd l0 7))] 23 (0, 0)) (by (with_reducible repeat (first | refine blk_drewN ?_ _ | refine blk_drew ?_ | refine blk_alloc ?_ _)); refine blk_far ?_ NB244_249.out _; (with_reducible repeat (first | refine blk_drewN ?_ _ | refine blk_drew ?_ | refine blk_alloc ?_ _)); refine blk_far ?_ NB244_249.out _; (with_reducible repeat (first | refine blk_drewN ?_ _ | refine blk_drew ?_ | refine blk_alloc ?_ _)); refine blk_far ?_ NB244_249.out _; (with_reducible repeat (first | refine blk_drewN ?_ _ | refine blk_drew ?_ | refine blk_alloc ?_ _)); refine blk_far ?_ NB244_249.out _; (with_reducible repeat (first | refine blk_drewN ?_ _ | refine blk_drew ?_ | refine blk_alloc ?_ _)); refine blk_far ?_ NB244_249.out _; (with_reducible repeat (first | refine blk_drewN ?_ _ | refine blk_drew ?_ | refine blk_alloc ?_ _)); exact BK244.out) hg (Kd.R_ne HO_6.out BK244.out (by decide))); have n2_ := Aside0.mk (blk_grown (g := gb249) (o := .cells #[.int .i64 0, .int .i64 0, .int .i64 0, .int .i64 0, .int .u64 0] 30 (0, 0)) (by (with_reducible repeat (first | refine blk_drewN ?_ _ | refine blk_drew ?_ | refine blk_alloc ?_ _)); refine blk_put (cs := #[.int .i64 0, .int .i64 0, .int .i64 0, .int .i64 0, .int .u64 0]) ?_ 4 _ rfl; (with_reducible repeat (first | refine blk_drewN ?_ _ | refine blk_drew ?_ | refine blk_alloc ?_ _)); refine blk_put (cs := #[.int .i64 0, .int .i64 0, .int .i64 0, .int .i64 0, .int .u64 0]) ?_ 3 _ rfl; (with_reducible repeat (first | refine blk_drewN ?_ _ | refine blk_drew ?_ | refine blk_alloc ?_ _)); refine blk_put (cs := #[.int .i64 0, .int .i64 0, .int .i64 0, .int .i64 0, .int .u64 0]) ?_ 2 _ rfl; (with_reducible repeat (first | refine blk_drewN ?_ _ | refine blk_drew ?_ | refine blk_alloc ?_ _)); refine blk_put (cs := #[.int .i64 0, .int .i64 0, .int .i64 0, .int .i64 0, .int .u64 0]) ?_ 1 _ rfl; (with_reducible repeat (first | refine blk_drewN ?_ _ | refine blk_drew ?_ | refine blk_alloc ?_ _)); refine blk_put (cs := #[.int .i64 0, .int .i64 0, .int .i64 0, .int .i64 0, .int .u64 0]) ?_ 0 _ rfl; (with_reducible repeat (first | refine blk_drewN ?_ _ | refine blk_drew ?_ | refine blk_alloc ?_ _)); exact BK249.out) hg (Kd.R_away HO_6.out (fun _ hk => hk.2))); have n3_ := Aside0.mk (hb); have n4_ := Aside0.mk (ho); clear BK238; clear BK244; clear BK249; clear HB; clear HO_6; have BK238 := n0_; have BK244 := n1_; have BK249 := n2_; have HB := n3_; have HO266 := n4_; clear n0_ n1_ n2_ n3_ n4_; clear ho hb hg hat))
                go_roundg k2
                case measure => have := HJ12.out; have := HK2.out; omega
                case rel => exact ⟨(y264), (wrap64 (x7_2 + 12)), (by first | rfl | (simp; done) | (simp [*]; done)), H', ⟨by have := HJ12.out; have := HK2.out; omega⟩, ⟨by (with_reducible repeat (first | apply Kd.R_alloc | apply Kd.R_drewN | apply Kd.R_drew)); exact Kd.R_mono HO266.out (fun _ hk => trivial)⟩, ⟨by (with_reducible repeat (first | refine blk_drewN ?_ _ | refine blk_drew ?_ | refine blk_alloc ?_ _)); exact BK238.out⟩, ⟨by (with_reducible repeat (first | refine blk_drewN ?_ _ | refine blk_drew ?_ | refine blk_alloc ?_ _)); exact BK244.out⟩, ⟨by repeat (first | (with_reducible first | exact HB.out | apply below_alloc | apply pw_below_drewN | apply below_drew1 | refine below_set ?_ GE238.out | refine below_set ?_ GE244.out | refine below_set ?_ GE249.out) | exact HB.out)⟩⟩
               ·
                rw [if_neg c99] at H
                exact absurd H (by simp)
             ·
              rw [if_neg c35] at H
              have c35b0 : decide (x7_2 < (l0.length : Int)) = false := decide_eq_false c35
              clear c35
              simp only [Option.some.injEq, Prod.mk.injEq] at H
              obtain ⟨rfl, rfl, rfl, rfl, rfl, rfl, rfl⟩ := H
              have hnb105 := NB244_238.out
              have hnc105 := NB238_244.out
              have hcz106_0 : wr.cell? ⟨gb244, 0, none⟩ = some (.int .i64 (wrap64 (rd l0 3))) := (blk_cell BK244.out 0).trans rfl
              have hcz106_1 : wr.cell? ⟨gb244, 1, none⟩ = some (.int .i64 (wrap64 (rd l0 4))) := (blk_cell BK244.out 1).trans rfl
              have hcz106_2 : wr.cell? ⟨gb244, 2, none⟩ = some (.int .i64 (wrap64 (rd l0 5))) := (blk_cell BK244.out 2).trans rfl
              have hcz106_3 : wr.cell? ⟨gb244, 3, none⟩ = some (.int .i64 (wrap64 (rd l0 6))) := (blk_cell BK244.out 3).trans rfl
              have hcz106_4 : wr.cell? ⟨gb244, 4, none⟩ = some (.int .i64 (wrap64 (rd l0 7))) := (blk_cell BK244.out 4).trans rfl
              have hfz106_0 := blk_frozen BK244.out 0
              have hfz106_1 := blk_frozen BK244.out 1
              have hfz106_2 := blk_frozen BK244.out 2
              have hfz106_3 := blk_frozen BK244.out 3
              have hfz106_4 := blk_frozen BK244.out 4
              have hcz107_0 : wr.cell? ⟨gb238, 0, none⟩ = some (.int .i64 0) := (blk_cell BK238.out 0).trans rfl
              have hcz107_1 : wr.cell? ⟨gb238, 1, none⟩ = some (.int .i64 0) := (blk_cell BK238.out 1).trans rfl
              have hcz107_2 : wr.cell? ⟨gb238, 2, none⟩ = some (.int .i64 0) := (blk_cell BK238.out 2).trans rfl
              have hcz107_3 : wr.cell? ⟨gb238, 3, none⟩ = some (.int .i64 0) := (blk_cell BK238.out 3).trans rfl
              have hcz107_4 : wr.cell? ⟨gb238, 4, none⟩ = some (.int .i64 0) := (blk_cell BK238.out 4).trans rfl
              have hfz107_0 := blk_frozen BK238.out 0
              have hfz107_1 := blk_frozen BK238.out 1
              have hfz107_2 := blk_frozen BK238.out 2
              have hfz107_3 := blk_frozen BK238.out 3
              have hfz107_4 := blk_frozen BK238.out 4
              go_wp2
              refine bodyPost_ret (results_ctt rfl _ _ gb238 23 #[.int .i64 (wrap64 (rd l0 3)), .int .i64 (wrap64 (rd l0 4)), .int .i64 (wrap64 (rd l0 5)), .int .i64 (wrap64 (rd l0 6)), .int .i64 (wrap64 (rd l0 7))] (0, 0) _ rfl (by (with_reducible repeat (first | refine blk_drewN ?_ _ | refine blk_drew ?_ | refine blk_alloc ?_ _)); refine blk_put (cs := #[.int .i64 (wrap64 (rd l0 3)), .int .i64 (wrap64 (rd l0 4)), .int .i64 (wrap64 (rd l0 5)), .int .i64 (wrap64 (rd l0 6)), .int .i64 0]) ?_ 4 _ rfl; (with_reducible repeat (first | refine blk_drewN ?_ _ | refine blk_drew ?_ | refine blk_alloc ?_ _)); refine blk_put (cs := #[.int .i64 (wrap64 (rd l0 3)), .int .i64 (wrap64 (rd l0 4)), .int .i64 (wrap64 (rd l0 5)), .int .i64 0, .int .i64 0]) ?_ 3 _ rfl; (with_reducible repeat (first | refine blk_drewN ?_ _ | refine blk_drew ?_ | refine blk_alloc ?_ _)); refine blk_put (cs := #[.int .i64 (wrap64 (rd l0 3)), .int .i64 (wrap64 (rd l0 4)), .int .i64 0, .int .i64 0, .int .i64 0]) ?_ 2 _ rfl; (with_reducible repeat (first | refine blk_drewN ?_ _ | refine blk_drew ?_ | refine blk_alloc ?_ _)); refine blk_put (cs := #[.int .i64 (wrap64 (rd l0 3)), .int .i64 0, .int .i64 0, .int .i64 0, .int .i64 0]) ?_ 1 _ rfl; (with_reducible repeat (first | refine blk_drewN ?_ _ | refine blk_drew ?_ | refine blk_alloc ?_ _)); refine blk_put (cs := #[.int .i64 0, .int .i64 0, .int .i64 0, .int .i64 0, .int .i64 0]) ?_ 0 _ rfl; (with_reducible repeat (first | refine blk_drewN ?_ _ | refine blk_drew ?_ | refine blk_alloc ?_ _)); exact BK238.out) Tryd.underlying23 rfl (by kernel_rfl)) rfl ?_
              exact ⟨_, by first | rfl | (simp [errW_none, errW_some] <;> rfl) | (simp [*, errW_none, errW_some] <;> rfl), by (with_reducible repeat (first | apply Kd.R_alloc | apply Kd.R_drewN | apply Kd.R_drew)); exact Kd.R_mono (Kd.R_far (p := ⟨gb238, 4, none⟩) (Kd.R_far (p := ⟨gb238, 3, none⟩) (Kd.R_far (p := ⟨gb238, 2, none⟩) (Kd.R_far (p := ⟨gb238, 1, none⟩) (Kd.R_far (p := ⟨gb238, 0, none⟩) (Kd.R_types HO_6.out BK238.out (by decide)) (fun _ hk => hk.2) (.int .i64 (wrap64 (rd l0 3)))) (fun _ hk => hk.2) (.int .i64 (wrap64 (rd l0 4)))) (fun _ hk => hk.2) (.int .i64 (wrap64 (rd l0 5)))) (fun _ hk => hk.2) (.int .i64 (wrap64 (rd l0 6)))) (fun _ hk => hk.2) (.int .i64 (wrap64 (rd l0 7)))) (fun _ hk => trivial), by repeat (first | (with_reducible first | exact HB.out | apply below_alloc | apply pw_below_drewN | apply below_drew1 | refine below_set ?_ GE238.out | refine below_set ?_ GE244.out) | exact HB.out)⟩
       ·
        rw [if_neg c12] at H
        exact absurd H (by simp)
      ·
       rw [if_neg c11] at H
       exact absurd H (by simp)
     ·
      rw [if_neg c10] at H
      exact absurd H (by simp)
    ·
     rw [if_neg c9] at H
     exact absurd H (by simp)
   ·
    rw [if_neg c8] at H
    exact absurd H (by simp)
end Go.Proofs.YteapmebmgaggcaaDoor.PW
