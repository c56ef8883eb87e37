import Derived.Test.YteapmebmgaggcaaDoorVi
import Derived.Test.YteapmebmgaggcaaDoorVk0
namespace Go.Proofs.YteapmebmgaggcaaDoor.PW
open Go.RowKit Go.Proofs.YteapmebmgaggcaaDoorW.PrintWords Go.Proofs.YteapmebmgaggcaaDoorW.PrintLast Go.Proofs.YteapmebmgaggcaaDoorW.PrintMore
attribute [local go_sem] max2_int min2_int max_two min_two max_three min_three max_four min_four   -- for this text's walks alone
set_option linter.unusedVariables false
set_option linter.unusedSimpArgs false

attribute [local go_sem high] eqA23 eqA30
/-! ### ringroadlaw26_WireApart: function 5 -/
mutual
def ringroadlaw26_WireApart.j0 : Nat → List (S30) → List (S30) → Bool → Int → Int → Int → Int → Int → Option (Bool)
 | 0, _, _, _, _, _, _, _, _ => none
 | k + 1, x1, x2, x23, x231000, x231001, x231002, x231003, x231004 => if x23 = true then (some true) else ((wire_Encode.f k x231000 x231001 x231002 x231003 x231004 x1).bind fun bt232 => ((wire_Encode.f k x231000 x231001 x231002 x231003 x231004 x2).bind fun bt236 => (if bt232.2 = 0 then (ringroadlaw26_WireApart.j1 k x1 x2 bt232.1 bt236.1 (bt236.2 != 0)) else (ringroadlaw26_WireApart.j1 k x1 x2 bt232.1 bt236.1 true))))
def ringroadlaw26_WireApart.j1 : Nat → List (S30) → List (S30) → List Int → List Int → Bool → Option (Bool)
 | 0, _, _, _, _, _ => none
 | k + 1, x1, x2, x7, x9, x41 => if x41 = true then (if (x7.length : Int) = 0 then (some true) else (some ((x9.length : Int) == 0))) else ((ringroadlaw26_ops.f k x1 x2).bind fun t240 => (if (((strOfNums x7).toList == (strOfNums x9).toList) != t240) = true then (some false) else (if (x1.length : Int) = 0 then (some ((x7.length : Int) == 8)) else (if 0 ≤ (wrap64 (8 + (wrap64 (12 * (wrap64 ((x1.length : Int) - 1)))))) then (if (wrap64 (8 + (wrap64 (12 * (wrap64 ((x1.length : Int) - 1)))))) ≤ (x7.length : Int) then ((wire_Decode.f k (x7.take ((wrap64 (8 + (wrap64 (12 * (wrap64 ((x1.length : Int) - 1)))))) : Int).toNat)).bind fun bt245 => (if bt245.2.2.2.2.2.2 = 0 then ((ringroadlaw26_ops.f k bt245.2.2.2.2.2.1 (x1.take (x1.length - 1))).bind fun t255 => (some t255)) else (some false))) else (none)) else (none)))))
end
def ringroadlaw26_WireApart.f (k : Nat) (a0_0 : Int) (a0_1 : Int) (a0_2 : Int) (a0_3 : Int) (a0_4 : Int) (l1 : List (S30)) (l2 : List (S30)) : Option (Bool) := (ringroadlaw26_awake.f k).bind fun t231 => (if t231 = true then (if (l1.length : Int) > 100 then (ringroadlaw26_WireApart.j0 k l1 l2 true a0_0 a0_1 a0_2 a0_3 a0_4) else (ringroadlaw26_WireApart.j0 k l1 l2 (decide ((l2.length : Int) > 100)) a0_0 a0_1 a0_2 a0_3 a0_4)) else (some false))
theorem ringroadlaw26_WireApart.mono_l : ∀ k, (∀ y0 y1 y2 y3 y4 y5 y6 y7, LeO (ringroadlaw26_WireApart.j0 k y0 y1 y2 y3 y4 y5 y6 y7) (ringroadlaw26_WireApart.j0 (k + 1) y0 y1 y2 y3 y4 y5 y6 y7)) ∧ (∀ y0 y1 y2 y3 y4, LeO (ringroadlaw26_WireApart.j1 k y0 y1 y2 y3 y4) (ringroadlaw26_WireApart.j1 (k + 1) y0 y1 y2 y3 y4))
 | 0 => ⟨fun _ _ _ _ _ _ _ _ r h => by simp [ringroadlaw26_WireApart.j0] at h, fun _ _ _ _ _ r h => by simp [ringroadlaw26_WireApart.j1] at h⟩
 | k + 1 => by
  obtain ⟨ih0, ih1⟩ := ringroadlaw26_WireApart.mono_l k
  refine ⟨?_, ?_⟩
  ·
   intro y0 y1 y2 y3 y4 y5 y6 y7
   unfold ringroadlaw26_WireApart.j0
   repeat' first
   | (with_reducible exact ih0 _ _ _ _ _ _ _ _)
   | (with_reducible exact ih1 _ _ _ _ _)
   | (with_reducible exact ringroadlaw26_awake.mono _)
   | (with_reducible exact ringroadlaw26_ops.mono _ _ _)
   | (with_reducible exact wire_Decode.mono _ _)
   | (with_reducible exact wire_Encode.mono _ _ _ _ _ _ _)
   | (with_reducible exact LeO.refl _)
   | (with_reducible exact LeO.none _)
   | (with_reducible refine LeO.ite ?_ ?_)
   | (with_reducible refine LeO.bind ?_ (fun _ => ?_))
   | exact ih0 _ _ _ _ _ _ _ _
   | exact ih1 _ _ _ _ _
   | exact ringroadlaw26_awake.mono _
   | exact ringroadlaw26_ops.mono _ _ _
   | exact wire_Decode.mono _ _
   | exact wire_Encode.mono _ _ _ _ _ _ _
   | exact LeO.none _
   | refine LeO.ite ?_ ?_
   | refine LeO.bind ?_ (fun _ => ?_)
  ·
   intro y0 y1 y2 y3 y4
   unfold ringroadlaw26_WireApart.j1
   repeat' first
   | (with_reducible exact ih0 _ _ _ _ _ _ _ _)
   | (with_reducible exact ih1 _ _ _ _ _)
   | (with_reducible exact ringroadlaw26_awake.mono _)
   | (with_reducible exact ringroadlaw26_ops.mono _ _ _)
   | (with_reducible exact wire_Decode.mono _ _)
   | (with_reducible exact wire_Encode.mono _ _ _ _ _ _ _)
   | (with_reducible exact LeO.refl _)
   | (with_reducible exact LeO.none _)
   | (with_reducible refine LeO.ite ?_ ?_)
   | (with_reducible refine LeO.bind ?_ (fun _ => ?_))
   | exact ih0 _ _ _ _ _ _ _ _
   | exact ih1 _ _ _ _ _
   | exact ringroadlaw26_awake.mono _
   | exact ringroadlaw26_ops.mono _ _ _
   | exact wire_Decode.mono _ _
   | exact wire_Encode.mono _ _ _ _ _ _ _
   | exact LeO.none _
   | refine LeO.ite ?_ ?_
   | refine LeO.bind ?_ (fun _ => ?_)
theorem ringroadlaw26_WireApart.mono : ∀ a0 a1 a2 a3 a4 a5 a6 k, LeO (ringroadlaw26_WireApart.f k a0 a1 a2 a3 a4 a5 a6) (ringroadlaw26_WireApart.f (k + 1) a0 a1 a2 a3 a4 a5 a6) := by
 intro a0 a1 a2 a3 a4 a5 a6 k
 obtain ⟨ih0, ih1⟩ := ringroadlaw26_WireApart.mono_l k
 unfold ringroadlaw26_WireApart.f
 repeat' first
   | (with_reducible exact ih0 _ _ _ _ _ _ _ _)
   | (with_reducible exact ih1 _ _ _ _ _)
   | (with_reducible exact ringroadlaw26_awake.mono _)
   | (with_reducible exact ringroadlaw26_ops.mono _ _ _)
   | (with_reducible exact wire_Decode.mono _ _)
   | (with_reducible exact wire_Encode.mono _ _ _ _ _ _ _)
   | (with_reducible exact LeO.refl _)
   | (with_reducible exact LeO.none _)
   | (with_reducible refine LeO.ite ?_ ?_)
   | (with_reducible refine LeO.bind ?_ (fun _ => ?_))
   | exact ih0 _ _ _ _ _ _ _ _
   | exact ih1 _ _ _ _ _
   | exact ringroadlaw26_awake.mono _
   | exact ringroadlaw26_ops.mono _ _ _
   | exact wire_Decode.mono _ _
   | exact wire_Encode.mono _ _ _ _ _ _ _
   | exact LeO.none _
   | refine LeO.ite ?_ ?_
   | refine LeO.bind ?_ (fun _ => ?_)
set_option maxHeartbeats 8000000 in
set_option maxRecDepth 100000 in
theorem ringroadlaw26_WireApart.calls (k : Nat) (a0_0 : Int) (a0_1 : Int) (a0_2 : Int) (a0_3 : Int) (a0_4 : Int) (A1 : Option Addr) (c1 : Nat) (l1 : List (S30)) (A2 : Option Addr) (c2 : Nat) (l2 : List (S30)) (r : Bool) (hr : r = true) (w : World) (hr1 : Kd.C k30 w A1 l1.length l1) (hc1 : l1.length ≤ c1) (hr2 : Kd.C k30 w A2 l2.length l2) (hc2 : l2.length ≤ c2) (hN : NeedsOk w) (h : ringroadlaw26_WireApart.f k a0_0 a0_1 a0_2 a0_3 a0_4 l1 l2 = some r) :
  Calls Tryd.prog 5 #[.agg #[.int .i64 a0_0, .int .i64 a0_1, .int .i64 a0_2, .int .i64 a0_3, .int .i64 a0_4], .slice A1 l1.length c1, .slice A2 l2.length c2] w fun e w' => e = .returned (.bool r) ∧ Below w.heap.size w w' := by
 have HN := Aside0.mk hN
 clear hN
 have hu23 := Tryd.underlying23
 have HR1 := Aside0.mk hr1
 have HC1 := Aside0.mk hc1
 clear hr1 hc1
 have HR2 := Aside0.mk hr2
 have HC2 := Aside0.mk hc2
 clear hr2 hc2
 have HB := Aside0.mk (Below.refl w.heap.size w)
 have H : ((ringroadlaw26_awake.f k).bind fun t231 => (if t231 = true then (if (l1.length : Int) > 100 then (ringroadlaw26_WireApart.j0 k l1 l2 true a0_0 a0_1 a0_2 a0_3 a0_4) else (ringroadlaw26_WireApart.j0 k l1 l2 (decide ((l2.length : Int) > 100)) a0_0 a0_1 a0_2 a0_3 a0_4)) else (some false))) = some r := h
 clear h
 replace H := Option.bind_eq_some_iff.mp H
 obtain ⟨t231, A40, H⟩ := H
 replace H : (if t231 = true then (if (l1.length : Int) > 100 then (ringroadlaw26_WireApart.j0 k l1 l2 true a0_0 a0_1 a0_2 a0_3 a0_4) else (ringroadlaw26_WireApart.j0 k l1 l2 (decide ((l2.length : Int) > 100)) a0_0 a0_1 a0_2 a0_3 a0_4)) else (some false)) = some r := H
 have A4 := Aside0.mk A40
 clear A40
 by_cases c5 : t231 = true
 ·
  subst c5
  have H1 : (if (l1.length : Int) > 100 then (ringroadlaw26_WireApart.j0 k l1 l2 true a0_0 a0_1 a0_2 a0_3 a0_4) else (ringroadlaw26_WireApart.j0 k l1 l2 (decide ((l2.length : Int) > 100)) a0_0 a0_1 a0_2 a0_3 a0_4)) = some r := by rw [if_pos rfl] at H; exact H
  clear H
  have H := H1
  clear H1
  have HC6 := Aside0.mk H
  clear H
  go_enter Tryd.func5, Tryd.ntmps5
  go_upto_region 3 with (first | ((with_reducible refine gate_dst (N := 3) rfl ?_); (try (refine gate_guard (by rfl) ?_; dsimp only)); refine box_event ?hg (N := 3) ?hd (cs := #[.int .i64 a0_0, .int .i64 a0_1, .int .i64 a0_2, .int .i64 a0_3, .int .i64 a0_4]) (t := 23) ?hr ?_; (case hd => rfl); (case hg => rfl); (case hr => first | (go_simp; done) | (go_simp; rfl)); intro gb230 hg w7 hbox hb; have n0_ := Aside0.mk (below_step (by repeat (first | (with_reducible first | exact HB.out | apply below_alloc | apply pw_below_drewN | apply below_drew1) | exact HB.out)) hb); have n1_ := Aside0.mk (hbox); have n2_ := Aside0.mk ((by rw [hg]; exact (below_size (by repeat (first | (with_reducible first | exact HB.out | apply below_alloc | apply pw_below_drewN | apply below_drew1) | exact HB.out))) : w.heap.size ≤ gb230)); have n3_ := Aside0.mk ((by rw [hg]; exact (below_size (by repeat (first | (with_reducible first | exact HB.out | apply below_alloc | apply pw_below_drewN | apply below_drew1) | exact HB.out))) : w.heap.size ≤ gb230)); clear HB; have HB := n0_; have BK230 := n1_; have GW230 := n2_; have GE230 := n3_; clear n0_ n1_ n2_ n3_; clear hb hbox hg) | (go_at_call 9; (with_reducible refine (ringroadlaw26_awake.calls k _ ?sideN A4.out).mono ?_); (case sideN => exact needs_now HN (by repeat (first | (with_reducible first | exact HB.out | apply below_alloc | apply pw_below_drewN | apply below_drew1 | refine below_set ?_ GE230.out) | exact HB.out))); rintro e w8 ⟨rfl, hb⟩; have n0_ := Aside0.mk (blk_below (g := gb230) (o := .cells #[.int .i64 a0_0, .int .i64 a0_1, .int .i64 a0_2, .int .i64 a0_3, .int .i64 a0_4] 23 (0, 0)) (by (with_reducible repeat (first | refine blk_drewN ?_ _ | refine blk_drew ?_ | refine blk_alloc ?_ _)); exact BK230.out) hb); have n1_ := Aside0.mk (below_step (by repeat (first | (with_reducible first | exact HB.out | apply below_alloc | apply pw_below_drewN | apply below_drew1 | refine below_set ?_ GE230.out) | exact HB.out)) hb); clear BK230; clear HB; have BK230 := n0_; have HB := n1_; clear n0_ n1_; (try clear hb); (try clear hb2); (try clear hk); (try clear hi)))
  repeat (go_quiet (first | ((with_reducible refine gate_dst (N := 3) rfl ?_); (try (refine gate_guard (by rfl) ?_; dsimp only)); refine box_event ?hg (N := 3) ?hd (cs := #[.int .i64 a0_0, .int .i64 a0_1, .int .i64 a0_2, .int .i64 a0_3, .int .i64 a0_4]) (t := 23) ?hr ?_; (case hd => rfl); (case hg => rfl); (case hr => first | (go_simp; done) | (go_simp; rfl)); intro gb230 hg w7 hbox hb; have n0_ := Aside0.mk (below_step (by repeat (first | (with_reducible first | exact HB.out | apply below_alloc | apply pw_below_drewN | apply below_drew1) | exact HB.out)) hb); have n1_ := Aside0.mk (hbox); have n2_ := Aside0.mk ((by rw [hg]; exact (below_size (by repeat (first | (with_reducible first | exact HB.out | apply below_alloc | apply pw_below_drewN | apply below_drew1) | exact HB.out))) : w.heap.size ≤ gb230)); have n3_ := Aside0.mk ((by rw [hg]; exact (below_size (by repeat (first | (with_reducible first | exact HB.out | apply below_alloc | apply pw_below_drewN | apply below_drew1) | exact HB.out))) : w.heap.size ≤ gb230)); clear HB; have HB := n0_; have BK230 := n1_; have GW230 := n2_; have GE230 := n3_; clear n0_ n1_ n2_ n3_; clear hb hbox hg) | (go_at_call 9; (with_reducible refine (ringroadlaw26_awake.calls k _ ?sideN A4.out).mono ?_); (case sideN => exact needs_now HN (by repeat (first | (with_reducible first | exact HB.out | apply below_alloc | apply pw_below_drewN | apply below_drew1 | refine below_set ?_ GE230.out) | exact HB.out))); rintro e w8 ⟨rfl, hb⟩; have n0_ := Aside0.mk (blk_below (g := gb230) (o := .cells #[.int .i64 a0_0, .int .i64 a0_1, .int .i64 a0_2, .int .i64 a0_3, .int .i64 a0_4] 23 (0, 0)) (by (with_reducible repeat (first | refine blk_drewN ?_ _ | refine blk_drew ?_ | refine blk_alloc ?_ _)); exact BK230.out) hb); have n1_ := Aside0.mk (below_step (by repeat (first | (with_reducible first | exact HB.out | apply below_alloc | apply pw_below_drewN | apply below_drew1 | refine below_set ?_ GE230.out) | exact HB.out)) hb); clear BK230; clear HB; have BK230 := n0_; have HB := n1_; clear n0_ n1_; (try clear hb); (try clear hb2); (try clear hk); (try clear hi))); go_upto_region 3 with (first | ((with_reducible refine gate_dst (N := 3) rfl ?_); (try (refine gate_guard (by rfl) ?_; dsimp only)); refine box_event ?hg (N := 3) ?hd (cs := #[.int .i64 a0_0, .int .i64 a0_1, .int .i64 a0_2, .int .i64 a0_3, .int .i64 a0_4]) (t := 23) ?hr ?_; (case hd => rfl); (case hg => rfl); (case hr => first | (go_simp; done) | (go_simp; rfl)); intro gb230 hg w7 hbox hb; have n0_ := Aside0.mk (below_step (by repeat (first | (with_reducible first | exact HB.out | apply below_alloc | apply pw_below_drewN | apply below_drew1) | exact HB.out)) hb); have n1_ := Aside0.mk (hbox); have n2_ := Aside0.mk ((by rw [hg]; exact (below_size (by repeat (first | (with_reducible first | exact HB.out | apply below_alloc | apply pw_below_drewN | apply below_drew1) | exact HB.out))) : w.heap.size ≤ gb230)); have n3_ := Aside0.mk ((by rw [hg]; exact (below_size (by repeat (first | (with_reducible first | exact HB.out | apply below_alloc | apply pw_below_drewN | apply below_drew1) | exact HB.out))) : w.heap.size ≤ gb230)); clear HB; have HB := n0_; have BK230 := n1_; have GW230 := n2_; have GE230 := n3_; clear n0_ n1_ n2_ n3_; clear hb hbox hg) | (go_at_call 9; (with_reducible refine (ringroadlaw26_awake.calls k _ ?sideN A4.out).mono ?_); (case sideN => exact needs_now HN (by repeat (first | (with_reducible first | exact HB.out | apply below_alloc | apply pw_below_drewN | apply below_drew1 | refine below_set ?_ GE230.out) | exact HB.out))); rintro e w8 ⟨rfl, hb⟩; have n0_ := Aside0.mk (blk_below (g := gb230) (o := .cells #[.int .i64 a0_0, .int .i64 a0_1, .int .i64 a0_2, .int .i64 a0_3, .int .i64 a0_4] 23 (0, 0)) (by (with_reducible repeat (first | refine blk_drewN ?_ _ | refine blk_drew ?_ | refine blk_alloc ?_ _)); exact BK230.out) hb); have n1_ := Aside0.mk (below_step (by repeat (first | (with_reducible first | exact HB.out | apply below_alloc | apply pw_below_drewN | apply below_drew1 | refine below_set ?_ GE230.out) | exact HB.out)) hb); clear BK230; clear HB; have BK230 := n0_; have HB := n1_; clear n0_ n1_; (try clear hb); (try clear hb2); (try clear hk); (try clear hi))))
  (try simp only [Act.put, List.setIfInBounds_toArray, List.set_cons_zero, List.set_cons_succ])
  go_cut [23] (fun v23 wc => ∃ (kq : Nat) (x23_5 : Bool), v23 = .bool x23_5 ∧ Aside0 (ringroadlaw26_WireApart.j0 kq l1 l2 x23_5 a0_0 a0_1 a0_2 a0_3 a0_4 = some r) ∧ Aside0 (kq ≤ k) ∧ Aside0 (wc.heap[gb230]? = some (.cells #[.int .i64 a0_0, .int .i64 a0_1, .int .i64 a0_2, .int .i64 a0_3, .int .i64 a0_4] 23 (0, 0))) ∧ Aside0 (Below w.heap.size w wc))
  case first =>
   have H := HC6.out
   clear HC6
   by_cases c9 : (l1.length : Int) > 100
   ·
    rw [if_pos c9] at H
    have c9b0 : decide (100 < (l1.length : Int)) = true := decide_eq_true c9
    have c9b1 : decide (100 < l1.length) = true := decide_eq_true (by omega)
    clear c9
    (first | rw [c9b0] | (simp only [i64_w, i32_w]; rw [c9b0]) | skip)
    have H' := Aside0.mk H
    clear H
    go_wp2
    repeat (go_quiet (fail); try go_wp2)
    go_meet
    case rel => exact ⟨_, (true), (by first | rfl | (simp; done) | (simp [*]; done)), H', ⟨by first | omega | exact Nat.le_refl _⟩, ⟨by (with_reducible repeat (first | refine blk_drewN ?_ _ | refine blk_drew ?_ | refine blk_alloc ?_ _)); exact BK230.out⟩, ⟨by repeat (first | (with_reducible first | exact HB.out | apply below_alloc | apply pw_below_drewN | apply below_drew1 | refine below_set ?_ GE230.out) | exact HB.out)⟩⟩
   ·
    rw [if_neg c9] at H
    have c9b0 : decide (100 < (l1.length : Int)) = false := decide_eq_false c9
    have c9b1 : decide (100 < l1.length) = false := decide_eq_false (by omega)
    clear c9
    (first | rw [c9b0] | (simp only [i64_w, i32_w]; rw [c9b0]) | skip)
    have H' := Aside0.mk H
    clear H
    go_wp2
    repeat (go_quiet (fail); try go_wp2)
    go_meet
    case rel => exact ⟨_, (decide ((l2.length : Int) > 100)), (by first | rfl | (simp; done) | (simp [*]; done)), H', ⟨by first | omega | exact Nat.le_refl _⟩, ⟨by (with_reducible repeat (first | refine blk_drewN ?_ _ | refine blk_drew ?_ | refine blk_alloc ?_ _)); exact BK230.out⟩, ⟨by repeat (first | (with_reducible first | exact HB.out | apply below_alloc | apply pw_below_drewN | apply below_drew1 | refine below_set ?_ GE230.out) | exact HB.out)⟩⟩
  case rest =>
   clear HC6
   try clear c1
   try clear c2
   try clear p2
   try clear c5
   try clear c9
   try clear c9b0
   try clear c9b1
   obtain ⟨kq, x23_5, rfl, HA, HJ5, BK230, HB⟩ := hcut
   cases kq with
   | zero => exact absurd HA.out (by simp [ringroadlaw26_WireApart.j0])
   | succ kj5 =>
    have H := HA.out
    clear HA
    simp only [ringroadlaw26_WireApart.j0] at H
    by_cases c10 : x23_5 = true
    ·
     subst c10
     have H1 : (some true) = some r := by rw [if_pos rfl] at H; exact H
     clear H
     have H := H1
     clear H1
     obtain rfl := Option.some.inj H
     go_wp2
     repeat (go_quiet (fail); try go_wp2)
     go_ret
     exact ⟨by first | rfl | (simp [errW_none, errW_some] <;> rfl) | (simp [*, errW_none, errW_some] <;> rfl), by repeat (first | (with_reducible first | exact HB.out | apply below_alloc | apply pw_below_drewN | apply below_drew1 | refine below_set ?_ GE230.out) | exact HB.out)⟩
    ·
     replace c10 := Bool.eq_false_iff.mpr c10
     subst c10
     have H1 : ((wire_Encode.f kj5 a0_0 a0_1 a0_2 a0_3 a0_4 l1).bind fun bt232 => ((wire_Encode.f kj5 a0_0 a0_1 a0_2 a0_3 a0_4 l2).bind fun bt236 => (if bt232.2 = 0 then (ringroadlaw26_WireApart.j1 kj5 l1 l2 bt232.1 bt236.1 (bt236.2 != 0)) else (ringroadlaw26_WireApart.j1 kj5 l1 l2 bt232.1 bt236.1 true)))) = some r := by rw [if_neg (show ¬ (false = true) by decide)] at H; exact H
     clear H
     have H := H1
     clear H1
     replace H := Option.bind_eq_some_iff.mp H
     obtain ⟨⟨t232, t235⟩, A110, H⟩ := H
     replace H : ((wire_Encode.f kj5 a0_0 a0_1 a0_2 a0_3 a0_4 l2).bind fun bt236 => (if t235 = 0 then (ringroadlaw26_WireApart.j1 kj5 l1 l2 t232 bt236.1 (bt236.2 != 0)) else (ringroadlaw26_WireApart.j1 kj5 l1 l2 t232 bt236.1 true))) = some r := H
     have A11 := Aside0.mk A110
     clear A110
     replace H := Option.bind_eq_some_iff.mp H
     obtain ⟨⟨t236, t239⟩, A120, H⟩ := H
     replace H : (if t235 = 0 then (ringroadlaw26_WireApart.j1 kj5 l1 l2 t232 t236 (t239 != 0)) else (ringroadlaw26_WireApart.j1 kj5 l1 l2 t232 t236 true)) = some r := H
     have A12 := Aside0.mk A120
     clear A120
     have HC13 := Aside0.mk H
     clear H
     have hcz14_0 : wc.cell? ⟨gb230, 0, none⟩ = some (.int .i64 a0_0) := (blk_cell BK230.out 0).trans rfl
     have hcz14_1 : wc.cell? ⟨gb230, 1, none⟩ = some (.int .i64 a0_1) := (blk_cell BK230.out 1).trans rfl
     have hcz14_2 : wc.cell? ⟨gb230, 2, none⟩ = some (.int .i64 a0_2) := (blk_cell BK230.out 2).trans rfl
     have hcz14_3 : wc.cell? ⟨gb230, 3, none⟩ = some (.int .i64 a0_3) := (blk_cell BK230.out 3).trans rfl
     have hcz14_4 : wc.cell? ⟨gb230, 4, none⟩ = some (.int .i64 a0_4) := (blk_cell BK230.out 4).trans rfl
     have hfz14_0 := blk_frozen BK230.out 0
     have hfz14_1 := blk_frozen BK230.out 1
     have hfz14_2 := blk_frozen BK230.out 2
     have hfz14_3 := blk_frozen BK230.out 3
     have hfz14_4 := blk_frozen BK230.out 4
     go_upto_region 7 with (first | (go_at_call 14; (with_reducible refine (wire_Encode.calls kj5 a0_0 a0_1 a0_2 a0_3 a0_4 _ _ l1 t232 t235 _ ?side1 ?side2 ?sideN A11.out).mono ?_); (case sideN => exact needs_now HN (by repeat (first | (with_reducible first | exact HB.out | apply below_alloc | apply pw_below_drewN | apply below_drew1 | refine below_set ?_ GE230.out) | exact HB.out))); (case side1 => repeat (first | exact (Kd.C_below HR1.out HB.out) | (with_reducible refine Kd.C_alloc ?_ _) | (with_reducible refine Kd.C_drewN ?_ _) | (with_reducible refine Kd.C_drew ?_))); (case side2 => exact HC1.out); rintro e w15 ⟨v233, rfl, ho0, hb⟩; have n0_ := Aside0.mk (Kd.R_lower ho0 (below_size (by repeat (first | (with_reducible first | exact HB.out | apply below_alloc | apply pw_below_drewN | apply below_drew1 | refine below_set ?_ GE230.out) | exact HB.out)))); have n1_ := Aside0.mk (blk_below (g := gb230) (o := .cells #[.int .i64 a0_0, .int .i64 a0_1, .int .i64 a0_2, .int .i64 a0_3, .int .i64 a0_4] 23 (0, 0)) (by (with_reducible repeat (first | refine blk_drewN ?_ _ | refine blk_drew ?_ | refine blk_alloc ?_ _)); exact BK230.out) hb); have n2_ := Aside0.mk (below_step (by repeat (first | (with_reducible first | exact HB.out | apply below_alloc | apply pw_below_drewN | apply below_drew1 | refine below_set ?_ GE230.out) | exact HB.out)) hb); clear BK230; clear HB; have HO234 := n0_; have BK230 := n1_; have HB := n2_; clear n0_ n1_ n2_; (try clear hb); (try clear hb2); (try clear hk); (try clear hi); (try clear ho0); have hcz16_0 : w15.cell? ⟨gb230, 0, none⟩ = some (.int .i64 a0_0) := (blk_cell BK230.out 0).trans rfl; have hcz16_1 : w15.cell? ⟨gb230, 1, none⟩ = some (.int .i64 a0_1) := (blk_cell BK230.out 1).trans rfl; have hcz16_2 : w15.cell? ⟨gb230, 2, none⟩ = some (.int .i64 a0_2) := (blk_cell BK230.out 2).trans rfl; have hcz16_3 : w15.cell? ⟨gb230, 3, none⟩ = some (.int .i64 a0_3) := (blk_cell BK230.out 3).trans rfl; have hcz16_4 : w15.cell? ⟨gb230, 4, none⟩ = some (.int .i64 a0_4) := (blk_cell BK230.out 4).trans rfl; have hfz16_0 := blk_frozen BK230.out 0; have hfz16_1 := blk_frozen BK230.out 1; have hfz16_2 := blk_frozen BK230.out 2; have hfz16_3 := blk_frozen BK230.out 3; have hfz16_4 := blk_frozen BK230.out 4) | (go_at_call 14; (with_reducible refine (wire_Encode.calls kj5 a0_0 a0_1 a0_2 a0_3 a0_4 _ _ l2 t236 t239 _ ?side1 ?side2 ?sideN A12.out).mono ?_); (case sideN => exact needs_now HN (by repeat (first | (with_reducible first | exact HB.out | apply below_alloc | apply pw_below_drewN | apply below_drew1 | refine below_set ?_ GE230.out) | exact HB.out))); (case side1 => repeat (first | exact (Kd.C_below HR2.out HB.out) | (with_reducible refine Kd.C_alloc ?_ _) | (with_reducible refine Kd.C_drewN ?_ _) | (with_reducible refine Kd.C_drew ?_))); (case side2 => exact HC2.out); rintro e w17 ⟨v237, rfl, ho0, hb⟩; have n0_ := Aside0.mk (Kd.R_elder' (by (with_reducible repeat (first | apply Kd.R_alloc | apply Kd.R_drewN | apply Kd.R_drew)); exact HO234.out) (Kd.R_base ho0) hb); have n1_ := Aside0.mk (Kd.R_lower (Kd.R_new' ho0 (Kd.R_lt (by (with_reducible repeat (first | apply Kd.R_alloc | apply Kd.R_drewN | apply Kd.R_drew)); exact HO234.out))) (below_size (by repeat (first | (with_reducible first | exact HB.out | apply below_alloc | apply pw_below_drewN | apply below_drew1 | refine below_set ?_ GE230.out) | exact HB.out)))); have n2_ := Aside0.mk (blk_below (g := gb230) (o := .cells #[.int .i64 a0_0, .int .i64 a0_1, .int .i64 a0_2, .int .i64 a0_3, .int .i64 a0_4] 23 (0, 0)) (by (with_reducible repeat (first | refine blk_drewN ?_ _ | refine blk_drew ?_ | refine blk_alloc ?_ _)); exact BK230.out) hb); have n3_ := Aside0.mk (below_step (by repeat (first | (with_reducible first | exact HB.out | apply below_alloc | apply pw_below_drewN | apply below_drew1 | refine below_set ?_ GE230.out) | exact HB.out)) hb); clear HO234; clear BK230; clear HB; have HO234 := n0_; have HO238 := n1_; have BK230 := n2_; have HB := n3_; clear n0_ n1_ n2_ n3_; (try clear hb); (try clear hb2); (try clear hk); (try clear hi); (try clear ho0)))
     repeat (go_quiet (first | (go_at_call 14; (with_reducible refine (wire_Encode.calls kj5 a0_0 a0_1 a0_2 a0_3 a0_4 _ _ l1 t232 t235 _ ?side1 ?side2 ?sideN A11.out).mono ?_); (case sideN => exact needs_now HN (by repeat (first | (with_reducible first | exact HB.out | apply below_alloc | apply pw_below_drewN | apply below_drew1 | refine below_set ?_ GE230.out) | exact HB.out))); (case side1 => repeat (first | exact (Kd.C_below HR1.out HB.out) | (with_reducible refine Kd.C_alloc ?_ _) | (with_reducible refine Kd.C_drewN ?_ _) | (with_reducible refine Kd.C_drew ?_))); (case side2 => exact HC1.out); rintro e w15 ⟨v233, rfl, ho0, hb⟩; have n0_ := Aside0.mk (Kd.R_lower ho0 (below_size (by repeat (first | (with_reducible first | exact HB.out | apply below_alloc | apply pw_below_drewN | apply below_drew1 | refine below_set ?_ GE230.out) | exact HB.out)))); have n1_ := Aside0.mk (blk_below (g := gb230) (o := .cells #[.int .i64 a0_0, .int .i64 a0_1, .int .i64 a0_2, .int .i64 a0_3, .int .i64 a0_4] 23 (0, 0)) (by (with_reducible repeat (first | refine blk_drewN ?_ _ | refine blk_drew ?_ | refine blk_alloc ?_ _)); exact BK230.out) hb); have n2_ := Aside0.mk (below_step (by repeat (first | (with_reducible first | exact HB.out | apply below_alloc | apply pw_below_drewN | apply below_drew1 | refine below_set ?_ GE230.out) | exact HB.out)) hb); clear BK230; clear HB; have HO234 := n0_; have BK230 := n1_; have HB := n2_; clear n0_ n1_ n2_; (try clear hb); (try clear hb2); (try clear hk); (try clear hi); (try clear ho0); have hcz16_0 : w15.cell? ⟨gb230, 0, none⟩ = some (.int .i64 a0_0) := (blk_cell BK230.out 0).trans rfl; have hcz16_1 : w15.cell? ⟨gb230, 1, none⟩ = some (.int .i64 a0_1) := (blk_cell BK230.out 1).trans rfl; have hcz16_2 : w15.cell? ⟨gb230, 2, none⟩ = some (.int .i64 a0_2) := (blk_cell BK230.out 2).trans rfl; have hcz16_3 : w15.cell? ⟨gb230, 3, none⟩ = some (.int .i64 a0_3) := (blk_cell BK230.out 3).trans rfl; have hcz16_4 : w15.cell? ⟨gb230, 4, none⟩ = some (.int .i64 a0_4) := (blk_cell BK230.out 4).trans rfl; have hfz16_0 := blk_frozen BK230.out 0; have hfz16_1 := blk_frozen BK230.out 1; have hfz16_2 := blk_frozen BK230.out 2; have hfz16_3 := blk_frozen BK230.out 3; have hfz16_4 := blk_frozen BK230.out 4) | (go_at_call 14; (with_reducible refine (wire_Encode.calls kj5 a0_0 a0_1 a0_2 a0_3 a0_4 _ _ l2 t236 t239 _ ?side1 ?side2 ?sideN A12.out).mono ?_); (case sideN => exact needs_now HN (by repeat (first | (with_reducible first | exact HB.out | apply below_alloc | apply pw_below_drewN | apply below_drew1 | refine below_set ?_ GE230.out) | exact HB.out))); (case side1 => repeat (first | exact (Kd.C_below HR2.out HB.out) | (with_reducible refine Kd.C_alloc ?_ _) | (with_reducible refine Kd.C_drewN ?_ _) | (with_reducible refine Kd.C_drew ?_))); (case side2 => exact HC2.out); rintro e w17 ⟨v237, rfl, ho0, hb⟩; have n0_ := Aside0.mk (Kd.R_elder' (by (with_reducible repeat (first | apply Kd.R_alloc | apply Kd.R_drewN | apply Kd.R_drew)); exact HO234.out) (Kd.R_base ho0) hb); have n1_ := Aside0.mk (Kd.R_lower (Kd.R_new' ho0 (Kd.R_lt (by (with_reducible repeat (first | apply Kd.R_alloc | apply Kd.R_drewN | apply Kd.R_drew)); exact HO234.out))) (below_size (by repeat (first | (with_reducible first | exact HB.out | apply below_alloc | apply pw_below_drewN | apply below_drew1 | refine below_set ?_ GE230.out) | exact HB.out)))); have n2_ := Aside0.mk (blk_below (g := gb230) (o := .cells #[.int .i64 a0_0, .int .i64 a0_1, .int .i64 a0_2, .int .i64 a0_3, .int .i64 a0_4] 23 (0, 0)) (by (with_reducible repeat (first | refine blk_drewN ?_ _ | refine blk_drew ?_ | refine blk_alloc ?_ _)); exact BK230.out) hb); have n3_ := Aside0.mk (below_step (by repeat (first | (with_reducible first | exact HB.out | apply below_alloc | apply pw_below_drewN | apply below_drew1 | refine below_set ?_ GE230.out) | exact HB.out)) hb); clear HO234; clear BK230; clear HB; have HO234 := n0_; have HO238 := n1_; have BK230 := n2_; have HB := n3_; clear n0_ n1_ n2_ n3_; (try clear hb); (try clear hb2); (try clear hk); (try clear hi); (try clear ho0))); go_upto_region 7 with (first | (go_at_call 14; (with_reducible refine (wire_Encode.calls kj5 a0_0 a0_1 a0_2 a0_3 a0_4 _ _ l1 t232 t235 _ ?side1 ?side2 ?sideN A11.out).mono ?_); (case sideN => exact needs_now HN (by repeat (first | (with_reducible first | exact HB.out | apply below_alloc | apply pw_below_drewN | apply below_drew1 | refine below_set ?_ GE230.out) | exact HB.out))); (case side1 => repeat (first | exact (Kd.C_below HR1.out HB.out) | (with_reducible refine Kd.C_alloc ?_ _) | (with_reducible refine Kd.C_drewN ?_ _) | (with_reducible refine Kd.C_drew ?_))); (case side2 => exact HC1.out); rintro e w15 ⟨v233, rfl, ho0, hb⟩; have n0_ := Aside0.mk (Kd.R_lower ho0 (below_size (by repeat (first | (with_reducible first | exact HB.out | apply below_alloc | apply pw_below_drewN | apply below_drew1 | refine below_set ?_ GE230.out) | exact HB.out)))); have n1_ := Aside0.mk (blk_below (g := gb230) (o := .cells #[.int .i64 a0_0, .int .i64 a0_1, .int .i64 a0_2, .int .i64 a0_3, .int .i64 a0_4] 23 (0, 0)) (by (with_reducible repeat (first | refine blk_drewN ?_ _ | refine blk_drew ?_ | refine blk_alloc ?_ _)); exact BK230.out) hb); have n2_ := Aside0.mk (below_step (by repeat (first | (with_reducible first | exact HB.out | apply below_alloc | apply pw_below_drewN | apply below_drew1 | refine below_set ?_ GE230.out) | exact HB.out)) hb); clear BK230; clear HB; have HO234 := n0_; have BK230 := n1_; have HB := n2_; clear n0_ n1_ n2_; (try clear hb); (try clear hb2); (try clear hk); (try clear hi); (try clear ho0); have hcz16_0 : w15.cell? ⟨gb230, 0, none⟩ = some (.int .i64 a0_0) := (blk_cell BK230.out 0).trans rfl; have hcz16_1 : w15.cell? ⟨gb230, 1, none⟩ = some (.int .i64 a0_1) := (blk_cell BK230.out 1).trans rfl; have hcz16_2 : w15.cell? ⟨gb230, 2, none⟩ = some (.int .i64 a0_2) := (blk_cell BK230.out 2).trans rfl; have hcz16_3 : w15.cell? ⟨gb230, 3, none⟩ = some (.int .i64 a0_3) := (blk_cell BK230.out 3).trans rfl; have hcz16_4 : w15.cell? ⟨gb230, 4, none⟩ = some (.int .i64 a0_4) := (blk_cell BK230.out 4).trans rfl; have hfz16_0 := blk_frozen BK230.out 0; have hfz16_1 := blk_frozen BK230.out 1; have hfz16_2 := blk_frozen BK230.out 2; have hfz16_3 := blk_frozen BK230.out 3; have hfz16_4 := blk_frozen BK230.out 4) | (go_at_call 14; (with_reducible refine (wire_Encode.calls kj5 a0_0 a0_1 a0_2 a0_3 a0_4 _ _ l2 t236 t239 _ ?side1 ?side2 ?sideN A12.out).mono ?_); (case sideN => exact needs_now HN (by repeat (first | (with_reducible first | exact HB.out | apply below_alloc | apply pw_below_drewN | apply below_drew1 | refine below_set ?_ GE230.out) | exact HB.out))); (case side1 => repeat (first | exact (Kd.C_below HR2.out HB.out) | (with_reducible refine Kd.C_alloc ?_ _) | (with_reducible refine Kd.C_drewN ?_ _) | (with_reducible refine Kd.C_drew ?_))); (case side2 => exact HC2.out); rintro e w17 ⟨v237, rfl, ho0, hb⟩; have n0_ := Aside0.mk (Kd.R_elder' (by (with_reducible repeat (first | apply Kd.R_alloc | apply Kd.R_drewN | apply Kd.R_drew)); exact HO234.out) (Kd.R_base ho0) hb); have n1_ := Aside0.mk (Kd.R_lower (Kd.R_new' ho0 (Kd.R_lt (by (with_reducible repeat (first | apply Kd.R_alloc | apply Kd.R_drewN | apply Kd.R_drew)); exact HO234.out))) (below_size (by repeat (first | (with_reducible first | exact HB.out | apply below_alloc | apply pw_below_drewN | apply below_drew1 | refine below_set ?_ GE230.out) | exact HB.out)))); have n2_ := Aside0.mk (blk_below (g := gb230) (o := .cells #[.int .i64 a0_0, .int .i64 a0_1, .int .i64 a0_2, .int .i64 a0_3, .int .i64 a0_4] 23 (0, 0)) (by (with_reducible repeat (first | refine blk_drewN ?_ _ | refine blk_drew ?_ | refine blk_alloc ?_ _)); exact BK230.out) hb); have n3_ := Aside0.mk (below_step (by repeat (first | (with_reducible first | exact HB.out | apply below_alloc | apply pw_below_drewN | apply below_drew1 | refine below_set ?_ GE230.out) | exact HB.out)) hb); clear HO234; clear BK230; clear HB; have HO234 := n0_; have HO238 := n1_; have BK230 := n2_; have HB := n3_; clear n0_ n1_ n2_ n3_; (try clear hb); (try clear hb2); (try clear hk); (try clear hi); (try clear ho0))))
     (try simp only [Act.put, List.setIfInBounds_toArray, List.set_cons_zero, List.set_cons_succ])
     go_cut [41] (fun v41 wc => ∃ (kq : Nat) (x41_12 : Bool), v41 = .bool x41_12 ∧ Aside0 (ringroadlaw26_WireApart.j1 kq l1 l2 t232 t236 x41_12 = some r) ∧ Aside0 (kq ≤ kj5) ∧ Aside0 (Kd.R (Kd.int .u8) 5 wc w.heap.size (fun k_ => some k_ ≠ (v237 : Value).ownBlock) v233 t232) ∧ Aside0 (Kd.R (Kd.int .u8) 5 wc w.heap.size (fun k_ => some k_ ≠ (v233 : Value).ownBlock) v237 t236) ∧ Aside0 (wc.heap[gb230]? = some (.cells #[.int .i64 a0_0, .int .i64 a0_1, .int .i64 a0_2, .int .i64 a0_3, .int .i64 a0_4] 23 (0, 0))) ∧ Aside0 (Below w.heap.size w wc))
     case first =>
      have H := HC13.out
      clear HC13
      by_cases c18 : t235 = 0
      ·
       rw [if_pos c18] at H
       have c18b0 : (t235 == 0) = true := beq_iff_eq.mpr c18
       have c18b1 : (t235 != 0) = false := bne_eq_false_iff_eq.mpr c18
       clear c18
       (first | rw [c18b0] | (simp only [i64_w, i32_w]; rw [c18b0]) | skip)
       have H' := Aside0.mk H
       clear H
       go_wp2
       repeat (go_quiet (fail); try go_wp2)
       go_meet
       case rel => exact ⟨_, ((t239 != 0)), (by first | rfl | (simp; done) | (simp [*]; done)), H', ⟨by have := HJ5.out; first | omega | exact Nat.le_refl _⟩, ⟨by (with_reducible repeat (first | apply Kd.R_alloc | apply Kd.R_drewN | apply Kd.R_drew)); exact Kd.R_mono HO234.out (fun _ hk => hk.2)⟩, ⟨by (with_reducible repeat (first | apply Kd.R_alloc | apply Kd.R_drewN | apply Kd.R_drew)); exact Kd.R_mono HO238.out (fun _ hk => hk.2)⟩, ⟨by (with_reducible repeat (first | refine blk_drewN ?_ _ | refine blk_drew ?_ | refine blk_alloc ?_ _)); exact BK230.out⟩, ⟨by repeat (first | (with_reducible first | exact HB.out | apply below_alloc | apply pw_below_drewN | apply below_drew1 | refine below_set ?_ GE230.out) | exact HB.out)⟩⟩
      ·
       rw [if_neg c18] at H
       have c18b0 : (t235 == 0) = false := beq_eq_false_iff_ne.mpr c18
       have c18b1 : (t235 != 0) = true := bne_iff_ne.mpr c18
       (first | rw [c18b0] | (simp only [i64_w, i32_w]; rw [c18b0]) | skip)
       have H' := Aside0.mk H
       clear H
       go_wp2
       repeat (go_quiet (fail); try go_wp2)
       go_meet
       case rel => exact ⟨_, (true), (by first | rfl | (simp; done) | (simp [*]; done)), H', ⟨by have := HJ5.out; first | omega | exact Nat.le_refl _⟩, ⟨by (with_reducible repeat (first | apply Kd.R_alloc | apply Kd.R_drewN | apply Kd.R_drew)); exact Kd.R_mono HO234.out (fun _ hk => hk.2)⟩, ⟨by (with_reducible repeat (first | apply Kd.R_alloc | apply Kd.R_drewN | apply Kd.R_drew)); exact Kd.R_mono HO238.out (fun _ hk => hk.2)⟩, ⟨by (with_reducible repeat (first | refine blk_drewN ?_ _ | refine blk_drew ?_ | refine blk_alloc ?_ _)); exact BK230.out⟩, ⟨by repeat (first | (with_reducible first | exact HB.out | apply below_alloc | apply pw_below_drewN | apply below_drew1 | refine below_set ?_ GE230.out) | exact HB.out)⟩⟩
     case rest =>
      clear HC13
      try clear c1
      try clear c2
      try clear p2
      try clear c5
      try clear c9
      try clear c9b0
      try clear c9b1
      try clear c10
      try clear c18
      try clear c18b0
      try clear c18b1
      try clear hcz14_0
      try clear hcz14_1
      try clear hcz14_2
      try clear hcz14_3
      try clear hcz14_4
      try clear hcz16_0
      try clear hcz16_1
      try clear hcz16_2
      try clear hcz16_3
      try clear hcz16_4
      try clear hfz14_0
      try clear hfz14_1
      try clear hfz14_2
      try clear hfz14_3
      try clear hfz14_4
      try clear hfz16_0
      try clear hfz16_1
      try clear hfz16_2
      try clear hfz16_3
      try clear hfz16_4
      try clear p2
      obtain ⟨kq, x41_12, rfl, HA, HJ12, HO_7, HO_9, BK230, HB⟩ := hcut
      cases kq with
      | zero => exact absurd HA.out (by simp [ringroadlaw26_WireApart.j1])
      | succ kj12 =>
       have H := HA.out
       clear HA
       simp only [ringroadlaw26_WireApart.j1] at H
       by_cases c19 : x41_12 = true
       ·
        subst c19
        have H1 : (if (t232.length : Int) = 0 then (some true) else (some ((t236.length : Int) == 0))) = some r := by rw [if_pos rfl] at H; exact H
        clear H
        have H := H1
        clear H1
        by_cases c20 : (t232.length : Int) = 0
        ·
         rw [if_pos c20] at H
         have c20b0 : ((t232.length : Int) == 0) = true := beq_iff_eq.mpr c20
         have c20b1 : ((t232.length : Int) != 0) = false := bne_eq_false_iff_eq.mpr c20
         clear c20
         obtain rfl := Option.some.inj H
         obtain ⟨Ao21, co21, eo21⟩ := Kd.R_slice HO_7.out
         subst eo21
         go_wp2
         repeat (go_quiet (fail); try go_wp2)
         go_ret
         exact ⟨by first | rfl | (simp [errW_none, errW_some] <;> rfl) | (simp [*, errW_none, errW_some] <;> rfl), by repeat (first | (with_reducible first | exact HB.out | apply below_alloc | apply pw_below_drewN | apply below_drew1 | refine below_set ?_ GE230.out) | exact HB.out)⟩
        ·
         rw [if_neg c20] at H
         have c20b0 : ((t232.length : Int) == 0) = false := beq_eq_false_iff_ne.mpr c20
         have c20b1 : ((t232.length : Int) != 0) = true := bne_iff_ne.mpr c20
         have c20b2 : ¬ (t232 = []) := fun h_ => c20 (by rw [h_]; rfl)
         obtain rfl := Option.some.inj H
         obtain ⟨Ao22, co22, eo22⟩ := Kd.R_slice HO_7.out
         subst eo22
         obtain ⟨Ao23, co23, eo23⟩ := Kd.R_slice HO_9.out
         subst eo23
         go_wp2
         repeat (go_quiet (fail); try go_wp2)
         go_ret
         exact ⟨by first | rfl | (simp [errW_none, errW_some] <;> rfl) | (simp [*, errW_none, errW_some] <;> rfl), by repeat (first | (with_reducible first | exact HB.out | apply below_alloc | apply pw_below_drewN | apply below_drew1 | refine below_set ?_ GE230.out) | exact HB.out)⟩
       ·
        replace c19 := Bool.eq_false_iff.mpr c19
        subst c19
        have H1 : ((ringroadlaw26_ops.f kj12 l1 l2).bind fun t240 => (if (((strOfNums t232).toList == (strOfNums t236).toList) != t240) = true then (some false) else (if (l1.length : Int) = 0 then (some ((t232.length : Int) == 8)) else (if 0 ≤ (wrap64 (8 + (wrap64 (12 * (wrap64 ((l1.length : Int) - 1)))))) then (if (wrap64 (8 + (wrap64 (12 * (wrap64 ((l1.length : Int) - 1)))))) ≤ (t232.length : Int) then ((wire_Decode.f kj12 (t232.take ((wrap64 (8 + (wrap64 (12 * (wrap64 ((l1.length : Int) - 1)))))) : Int).toNat)).bind fun bt245 => (if bt245.2.2.2.2.2.2 = 0 then ((ringroadlaw26_ops.f kj12 bt245.2.2.2.2.2.1 (l1.take (l1.length - 1))).bind fun t255 => (some t255)) else (some false))) else (none)) else (none))))) = some r := by rw [if_neg (show ¬ (false = true) by decide)] at H; exact H
        clear H
        have H := H1
        clear H1
        replace H := Option.bind_eq_some_iff.mp H
        obtain ⟨t240, A240, H⟩ := H
        replace H : (if (((strOfNums t232).toList == (strOfNums t236).toList) != t240) = true then (some false) else (if (l1.length : Int) = 0 then (some ((t232.length : Int) == 8)) else (if 0 ≤ (wrap64 (8 + (wrap64 (12 * (wrap64 ((l1.length : Int) - 1)))))) then (if (wrap64 (8 + (wrap64 (12 * (wrap64 ((l1.length : Int) - 1)))))) ≤ (t232.length : Int) then ((wire_Decode.f kj12 (t232.take ((wrap64 (8 + (wrap64 (12 * (wrap64 ((l1.length : Int) - 1)))))) : Int).toNat)).bind fun bt245 => (if bt245.2.2.2.2.2.2 = 0 then ((ringroadlaw26_ops.f kj12 bt245.2.2.2.2.2.1 (l1.take (l1.length - 1))).bind fun t255 => (some t255)) else (some false))) else (none)) else (none)))) = some r := H
        have A24 := Aside0.mk A240
        clear A240
        by_cases c25 : (((strOfNums t232).toList == (strOfNums t236).toList) != t240) = true
        ·
         rw [if_pos c25] at H; cases (Option.some.inj H).trans hr
        ·
         rw [if_neg c25] at H
         have c25b0 : (((strOfNums t232).toList == (strOfNums t236).toList) != t240) = false := by simpa using c25
         (try (have c25b1 : decide (((strOfNums t232).toList == (strOfNums t236).toList) = t240) = true := by simpa using c25))
         (try (have c25b2 : (((strOfNums t232).toList == (strOfNums t236).toList) == t240) = true := by simpa using c25))
         clear c25
         by_cases c28 : (l1.length : Int) = 0
         ·
          rw [if_pos c28] at H
          have c28b0 : ((l1.length : Int) == 0) = true := beq_iff_eq.mpr c28
          have c28b1 : ((l1.length : Int) != 0) = false := bne_eq_false_iff_eq.mpr c28
          clear c28
          obtain rfl := Option.some.inj H
          have hcv29 : ∀ n : Nat, (convert 31 9 v233).run Tryd.prog (wc.drewN n) = .ok (.string (strOfNums t232)) (wc.drewN n) := fun n => own_string Tryd.underlying31 Tryd.underlying5 Tryd.underlying9 (Kd.own_of_R (Kd.R_drewN HO_7.out n))
          have hcv30 : ∀ n : Nat, (convert 31 9 v237).run Tryd.prog (wc.drewN n) = .ok (.string (strOfNums t236)) (wc.drewN n) := fun n => own_string Tryd.underlying31 Tryd.underlying5 Tryd.underlying9 (Kd.own_of_R (Kd.R_drewN HO_9.out n))
          go_wp2_with (first | (go_at_call 17; (with_reducible refine (ringroadlaw26_ops.calls kj12 _ _ l1 _ _ l2 t240 _ ?side1 ?side2 ?side3 ?side4 A24.out).mono ?_); (case side1 => repeat (first | exact (Kd.C_below HR1.out HB.out) | (with_reducible refine Kd.C_alloc ?_ _) | (with_reducible refine Kd.C_drewN ?_ _) | (with_reducible refine Kd.C_drew ?_))); (case side2 => exact HC1.out); (case side3 => repeat (first | exact (Kd.C_below HR2.out HB.out) | (with_reducible refine Kd.C_alloc ?_ _) | (with_reducible refine Kd.C_drewN ?_ _) | (with_reducible refine Kd.C_drew ?_))); (case side4 => exact HC2.out); rintro e w' ⟨rfl, ⟨nd, rfl⟩⟩; (try first | exact ⟨rfl, _, World.drewN_drewN _ _ _⟩ | exact ⟨rfl, _, Eq.trans (World.drewN_drewN _ _ _) (congrArg (World.drewN _) (Nat.add_assoc _ _ _))⟩); obtain ⟨Ao31, co31, eo31⟩ := Kd.R_slice HO_7.out; subst eo31))
          repeat (go_quiet (first | (go_at_call 17; (with_reducible refine (ringroadlaw26_ops.calls kj12 _ _ l1 _ _ l2 t240 _ ?side1 ?side2 ?side3 ?side4 A24.out).mono ?_); (case side1 => repeat (first | exact (Kd.C_below HR1.out HB.out) | (with_reducible refine Kd.C_alloc ?_ _) | (with_reducible refine Kd.C_drewN ?_ _) | (with_reducible refine Kd.C_drew ?_))); (case side2 => exact HC1.out); (case side3 => repeat (first | exact (Kd.C_below HR2.out HB.out) | (with_reducible refine Kd.C_alloc ?_ _) | (with_reducible refine Kd.C_drewN ?_ _) | (with_reducible refine Kd.C_drew ?_))); (case side4 => exact HC2.out); rintro e w' ⟨rfl, ⟨nd, rfl⟩⟩; (try first | exact ⟨rfl, _, World.drewN_drewN _ _ _⟩ | exact ⟨rfl, _, Eq.trans (World.drewN_drewN _ _ _) (congrArg (World.drewN _) (Nat.add_assoc _ _ _))⟩); obtain ⟨Ao31, co31, eo31⟩ := Kd.R_slice HO_7.out; subst eo31)); try go_wp2_with (first | (go_at_call 17; (with_reducible refine (ringroadlaw26_ops.calls kj12 _ _ l1 _ _ l2 t240 _ ?side1 ?side2 ?side3 ?side4 A24.out).mono ?_); (case side1 => repeat (first | exact (Kd.C_below HR1.out HB.out) | (with_reducible refine Kd.C_alloc ?_ _) | (with_reducible refine Kd.C_drewN ?_ _) | (with_reducible refine Kd.C_drew ?_))); (case side2 => exact HC1.out); (case side3 => repeat (first | exact (Kd.C_below HR2.out HB.out) | (with_reducible refine Kd.C_alloc ?_ _) | (with_reducible refine Kd.C_drewN ?_ _) | (with_reducible refine Kd.C_drew ?_))); (case side4 => exact HC2.out); rintro e w' ⟨rfl, ⟨nd, rfl⟩⟩; (try first | exact ⟨rfl, _, World.drewN_drewN _ _ _⟩ | exact ⟨rfl, _, Eq.trans (World.drewN_drewN _ _ _) (congrArg (World.drewN _) (Nat.add_assoc _ _ _))⟩); obtain ⟨Ao31, co31, eo31⟩ := Kd.R_slice HO_7.out; subst eo31)))
          go_ret
          exact ⟨by first | rfl | (simp [errW_none, errW_some] <;> rfl) | (simp [*, errW_none, errW_some] <;> rfl), by repeat (first | (with_reducible first | exact HB.out | apply below_alloc | apply pw_below_drewN | apply below_drew1 | refine below_set ?_ GE230.out) | exact HB.out)⟩
         ·
          rw [if_neg c28] at H
          have c28b0 : ((l1.length : Int) == 0) = false := beq_eq_false_iff_ne.mpr c28
          have c28b1 : ((l1.length : Int) != 0) = true := bne_iff_ne.mpr c28
          have c28b2 : ¬ (l1 = []) := fun h_ => c28 (by rw [h_]; rfl)
          obtain ⟨ji32, hji32⟩ : ∃ j_ : Int, (wrap64 (8 + (wrap64 (12 * (wrap64 ((l1.length : Int) - 1)))))) = j_ := ⟨_, rfl⟩
          replace H : (if 0 ≤ (ji32) then (if (ji32) ≤ (t232.length : Int) then ((wire_Decode.f kj12 (t232.take ((ji32) : Int).toNat)).bind fun bt245 => (if bt245.2.2.2.2.2.2 = 0 then ((ringroadlaw26_ops.f kj12 bt245.2.2.2.2.2.1 (l1.take (l1.length - 1))).bind fun t255 => (some t255)) else (some false))) else (none)) else (none)) = some r := by first | (rw [hji32] at H; exact H) | (simp only [hji32] at H ⊢; exact H)
          (try rw [hji32] at A24)
          have hji32w : (IntKind.i64.wrap (8 + (wrap64 (12 * (wrap64 ((l1.length : Int) - 1)))))) = ji32 := (i64_w _).trans hji32
          by_cases c33 : 0 ≤ (ji32)
          ·
           rw [if_pos c33] at H
           have c33b0 := eq_true c33
           have c33b1 : decide (0 ≤ (ji32)) = true := decide_eq_true c33
           clear c33
           by_cases c34 : (ji32) ≤ (t232.length : Int)
           ·
            rw [if_pos c34] at H
            have c34b0 := eq_true c34
            have c34b1 : decide ((ji32) ≤ (t232.length : Int)) = true := decide_eq_true c34
            clear c34
            obtain ⟨y241, hy241⟩ : ∃ y_ : List Int, y_ = (t232.take ((ji32) : Int).toNat) := ⟨_, rfl⟩
            replace H : ((wire_Decode.f kj12 y241).bind fun bt245 => (if bt245.2.2.2.2.2.2 = 0 then ((ringroadlaw26_ops.f kj12 bt245.2.2.2.2.2.1 (l1.take (l1.length - 1))).bind fun t255 => (some t255)) else (some false))) = some r := by first | (rw [hy241]; with_reducible exact H) | (have H2_ := (Option.bind_some _ _).symm.trans H; rw [hy241]; with_reducible exact H2_) | (have H2_ := (Option.bind_some _ _).symm.trans H; with_reducible exact H2_) | with_reducible exact H | (rw [hy241]; exact H) | exact H
            have Ny241 := Aside0.mk hy241
            clear hy241
            replace H := Option.bind_eq_some_iff.mp H
            obtain ⟨⟨t245, t246, t247, t248, t249, t250, t253⟩, A350, H⟩ := H
            replace H : (if t253 = 0 then ((ringroadlaw26_ops.f kj12 t250 (l1.take (l1.length - 1))).bind fun t255 => (some t255)) else (some false)) = some r := H
            have A35 := Aside0.mk A350
            clear A350
            by_cases c36 : t253 = 0
            ·
             rw [if_pos c36] at H
             have c36b0 : (t253 == 0) = true := beq_iff_eq.mpr c36
             have c36b1 : (t253 != 0) = false := bne_eq_false_iff_eq.mpr c36
             clear c36
             replace H := Option.bind_eq_some_iff.mp H
             obtain ⟨t255, A370, H⟩ := H
             replace H : (some t255) = some r := H
             have hlp : 0 < l1.length := List.length_pos_iff.mpr c28b2
             have hl63 := HR1.out.2.1
             obtain ⟨yl, hyl⟩ : ∃ y_ : List S30, y_ = l1.take (l1.length - 1) := ⟨_, rfl⟩
             have hyll : yl.length = l1.length - 1 := by rw [hyl, List.length_take]; omega
             have hwl : wrap64 ((l1.length : Int) - 1) = (yl.length : Int) := by unfold wrap64; omega
             have hcutA : ∀ W : World, (Instr.slice 24 (.slice A1 l1.length c1) none (some (.int .i64 (wrap64 ((l1.length : Int) - 1)))) none).run Tryd.prog W = .ok (.slice A1 yl.length c1) W := by
              intro W
              rw [hwl]
              obtain ⟨i30_, hi30_, _, hsz30_, _⟩ := info_parts info30
              have hc_ := cut_to (P := Tryd.prog) 24 30 .i64 Tryd.underlying24 hi30_ A1 l1.length c1 (yl.length : Int) (by omega) (by omega) HC1.out W
              rw [Int.toNat_natCast] at hc_
              exact hc_
             have hcutB : ∀ W : World, (Instr.slice 24 (.slice A1 l1.length c1) none (some (.int .i64 (IntKind.i64.wrap ((l1.length : Int) - 1)))) none).run Tryd.prog W = .ok (.slice A1 yl.length c1) W := by intro W; rw [i64_w]; exact hcutA W
             have HRl : Aside0 (Kd.C k30 w A1 yl.length yl) := ⟨by rw [hyl]; exact Kd.C_take (m := l1.length - 1) HR1.out (by omega)⟩
             have HCl : Aside0 (yl.length ≤ c1) := ⟨by have := HC1.out; omega⟩
             rw [← hyl] at A370
             clear hlp hl63 hyl hyll hwl
             have A37 := Aside0.mk A370
             clear A370
             obtain rfl := Option.some.inj H
             have hcv38 : ∀ n : Nat, (convert 31 9 v233).run Tryd.prog (wc.drewN n) = .ok (.string (strOfNums t232)) (wc.drewN n) := fun n => own_string Tryd.underlying31 Tryd.underlying5 Tryd.underlying9 (Kd.own_of_R (Kd.R_drewN HO_7.out n))
             have hcv39 : ∀ n : Nat, (convert 31 9 v237).run Tryd.prog (wc.drewN n) = .ok (.string (strOfNums t236)) (wc.drewN n) := fun n => own_string Tryd.underlying31 Tryd.underlying5 Tryd.underlying9 (Kd.own_of_R (Kd.R_drewN HO_9.out n))
             go_wp2_with (first | (go_at_call 17; (with_reducible refine (ringroadlaw26_ops.calls kj12 _ _ l1 _ _ l2 t240 _ ?side1 ?side2 ?side3 ?side4 A24.out).mono ?_); (case side1 => repeat (first | exact (Kd.C_below HR1.out HB.out) | (with_reducible refine Kd.C_alloc ?_ _) | (with_reducible refine Kd.C_drewN ?_ _) | (with_reducible refine Kd.C_drew ?_))); (case side2 => exact HC1.out); (case side3 => repeat (first | exact (Kd.C_below HR2.out HB.out) | (with_reducible refine Kd.C_alloc ?_ _) | (with_reducible refine Kd.C_drewN ?_ _) | (with_reducible refine Kd.C_drew ?_))); (case side4 => exact HC2.out); rintro e w' ⟨rfl, ⟨nd, rfl⟩⟩; (try first | exact ⟨rfl, _, World.drewN_drewN _ _ _⟩ | exact ⟨rfl, _, Eq.trans (World.drewN_drewN _ _ _) (congrArg (World.drewN _) (Nat.add_assoc _ _ _))⟩); obtain ⟨Ao41, co41, eo41⟩ := Kd.R_slice HO_7.out; subst eo41; have q40 : ((ji32) : Int) ≤ ((t232.length : Int) : Int) := of_decide_eq_true (by first | (with_reducible assumption) | assumption); obtain ⟨i040, hi040, _, hsz40, _⟩ := info_parts info5; have hroom40 : t232.length ≤ co41 := (Kd.R_reads' HO_7.out).2.1; have hC40 : Kd.C (Kd.int .u8) _ Ao41 t232.length t232 := (Kd.R_reads' HO_7.out).2.2; have hcut40 := cut_to (P := Tryd.prog) 31 5 .i64 Tryd.underlying31 hi040 Ao41 t232.length co41 (ji32) (of_decide_eq_true (by first | (with_reducible assumption) | assumption)) q40 hroom40; have hr40 := Kd.C_take (m := ((ji32) : Int).toNat) hC40 (by omega); have hy40 : y241.length = ((ji32) : Int).toNat := (by rw [Ny241.out, List.length_take]; omega); rw [← Ny241.out] at hr40; rw [← hy40] at hcut40; have HR244 := Aside0.mk hr40; have HC244 := Aside0.mk (show y241.length ≤ co41 from by omega); clear hr40 hC40 hroom40 hi040 hsz40; have KY40 := Aside0.mk hy40; clear hy40; have KL40 := Aside0.mk (show ((ji32) : Int).toNat ≤ t232.length from by omega); replace q40 := eq_true q40) | (go_at_call 15; (with_reducible refine (wire_Decode.calls kj12 _ _ y241 t245 t246 t247 t248 t249 t250 t253 _ ?side1 ?side2 ?sideN A35.out).mono ?_); (case sideN => exact needs_now HN (by repeat (first | (with_reducible first | exact HB.out | apply below_alloc | apply pw_below_drewN | apply below_drew1 | refine below_set ?_ GE230.out) | exact HB.out))); (case side1 => repeat (first | exact (by repeat (first | (with_reducible exact HR244.out) | (with_reducible refine Kd.C_alloc ?_ _) | (with_reducible refine Kd.C_drewN ?_ _) | (with_reducible refine Kd.C_drew ?_) | exact HR244.out)) | (with_reducible refine Kd.C_alloc ?_ _) | (with_reducible refine Kd.C_drewN ?_ _) | (with_reducible refine Kd.C_drew ?_))); (case side2 => exact HC244.out); rintro e w42 ⟨v251, rfl, ho0, hb⟩; have n0_ := Aside0.mk (Kd.R_below (by (with_reducible repeat (first | apply Kd.R_alloc | apply Kd.R_drewN | apply Kd.R_drew)); exact HO_7.out) hb); have n1_ := Aside0.mk (Kd.R_below (by (with_reducible repeat (first | apply Kd.R_alloc | apply Kd.R_drewN | apply Kd.R_drew)); exact HO_9.out) hb); have n2_ := Aside0.mk (Kd.R_lower ho0 (below_size (by repeat (first | (with_reducible first | exact HB.out | apply below_alloc | apply pw_below_drewN | apply below_drew1 | refine below_set ?_ GE230.out) | exact HB.out)))); have n3_ := Aside0.mk (blk_below (g := gb230) (o := .cells #[.int .i64 a0_0, .int .i64 a0_1, .int .i64 a0_2, .int .i64 a0_3, .int .i64 a0_4] 23 (0, 0)) (by (with_reducible repeat (first | refine blk_drewN ?_ _ | refine blk_drew ?_ | refine blk_alloc ?_ _)); exact BK230.out) hb); have n4_ := Aside0.mk (Kd.C_below (by repeat (first | (with_reducible exact HR244.out) | (with_reducible refine Kd.C_alloc ?_ _) | (with_reducible refine Kd.C_drewN ?_ _) | (with_reducible refine Kd.C_drew ?_) | exact HR244.out)) hb); have n5_ := Aside0.mk (below_step (by repeat (first | (with_reducible first | exact HB.out | apply below_alloc | apply pw_below_drewN | apply below_drew1 | refine below_set ?_ GE230.out) | exact HB.out)) hb); clear HO_7; clear HO_9; clear BK230; clear HR244; clear HB; have HO_7 := n0_; have HO_9 := n1_; have HO252 := n2_; have BK230 := n3_; have HR244 := n4_; have HB := n5_; clear n0_ n1_ n2_ n3_ n4_ n5_; (try clear hb); (try clear hb2); (try clear hk); (try clear hi); (try clear ho0)) | ((with_reducible refine gate_dst (N := 11) rfl ?_); (try (refine gate_guard (by rfl) ?_; dsimp only)); refine box_event ?hg (N := 11) ?hd (cs := #[.int .i64 0, .int .i64 0, .int .i64 0, .int .i64 0, .int .i64 0]) (t := 23) ?hr ?_; (case hd => rfl); (case hg => rfl); (case hr => first | (go_simp; done) | (go_simp; rfl)); intro gb254 hg w43 hbox hb; have n0_ := Aside0.mk (Kd.R_below (by (with_reducible repeat (first | apply Kd.R_alloc | apply Kd.R_drewN | apply Kd.R_drew)); exact HO_7.out) hb); have n1_ := Aside0.mk (Kd.R_below (by (with_reducible repeat (first | apply Kd.R_alloc | apply Kd.R_drewN | apply Kd.R_drew)); exact HO_9.out) hb); have n2_ := Aside0.mk (Kd.R_below (by (with_reducible repeat (first | apply Kd.R_alloc | apply Kd.R_drewN | apply Kd.R_drew)); exact HO252.out) hb); have n3_ := Aside0.mk (blk_below (g := gb230) (o := .cells #[.int .i64 a0_0, .int .i64 a0_1, .int .i64 a0_2, .int .i64 a0_3, .int .i64 a0_4] 23 (0, 0)) (by (with_reducible repeat (first | refine blk_drewN ?_ _ | refine blk_drew ?_ | refine blk_alloc ?_ _)); exact BK230.out) hb); have n4_ := Aside0.mk (Kd.C_below (by repeat (first | (with_reducible exact HR244.out) | (with_reducible refine Kd.C_alloc ?_ _) | (with_reducible refine Kd.C_drewN ?_ _) | (with_reducible refine Kd.C_drew ?_) | exact HR244.out)) hb); have n5_ := Aside0.mk (below_step (by repeat (first | (with_reducible first | exact HB.out | apply below_alloc | apply pw_below_drewN | apply below_drew1 | refine below_set ?_ GE230.out) | exact HB.out)) hb); have n6_ := Aside0.mk (hbox); have n7_ := Aside0.mk ((by rw [hg]; exact (below_size (by repeat (first | (with_reducible first | exact HB.out | apply below_alloc | apply pw_below_drewN | apply below_drew1 | refine below_set ?_ GE230.out) | exact HB.out))) : w.heap.size ≤ gb254)); have n8_ := Aside0.mk ((by rw [hg]; exact (below_size (by repeat (first | (with_reducible first | exact HB.out | apply below_alloc | apply pw_below_drewN | apply below_drew1 | refine below_set ?_ GE230.out) | exact HB.out))) : w.heap.size ≤ gb254)); have n9_ := Aside0.mk ((by rw [hg]; exact Nat.ne_of_lt (blk_lt (g := gb230) (o := .cells #[.int .i64 a0_0, .int .i64 a0_1, .int .i64 a0_2, .int .i64 a0_3, .int .i64 a0_4] 23 (0, 0)) (by (with_reducible repeat (first | refine blk_drewN ?_ _ | refine blk_drew ?_ | refine blk_alloc ?_ _)); exact BK230.out)) : gb230 ≠ gb254)); have n10_ := Aside0.mk ((by rw [hg]; exact Nat.ne_of_gt (blk_lt (g := gb230) (o := .cells #[.int .i64 a0_0, .int .i64 a0_1, .int .i64 a0_2, .int .i64 a0_3, .int .i64 a0_4] 23 (0, 0)) (by (with_reducible repeat (first | refine blk_drewN ?_ _ | refine blk_drew ?_ | refine blk_alloc ?_ _)); exact BK230.out)) : gb254 ≠ gb230)); clear HO_7; clear HO_9; clear HO252; clear BK230; clear HR244; clear HB; have HO_7 := n0_; have HO_9 := n1_; have HO252 := n2_; have BK230 := n3_; have HR244 := n4_; have HB := n5_; have BK254 := n6_; have GW254 := n7_; have GE254 := n8_; have NB230_254 := n9_; have NB254_230 := n10_; clear n0_ n1_ n2_ n3_ n4_ n5_ n6_ n7_ n8_ n9_ n10_; clear hb hbox hg; have hnb44 := NB254_230.out; have hnc44 := NB230_254.out; have hcz45_0 : w43.cell? ⟨gb254, 0, none⟩ = some (.int .i64 0) := (blk_cell BK254.out 0).trans rfl; have hcz45_1 : w43.cell? ⟨gb254, 1, none⟩ = some (.int .i64 0) := (blk_cell BK254.out 1).trans rfl; have hcz45_2 : w43.cell? ⟨gb254, 2, none⟩ = some (.int .i64 0) := (blk_cell BK254.out 2).trans rfl; have hcz45_3 : w43.cell? ⟨gb254, 3, none⟩ = some (.int .i64 0) := (blk_cell BK254.out 3).trans rfl; have hcz45_4 : w43.cell? ⟨gb254, 4, none⟩ = some (.int .i64 0) := (blk_cell BK254.out 4).trans rfl; have hfz45_0 := blk_frozen BK254.out 0; have hfz45_1 := blk_frozen BK254.out 1; have hfz45_2 := blk_frozen BK254.out 2; have hfz45_3 := blk_frozen BK254.out 3; have hfz45_4 := blk_frozen BK254.out 4; obtain ⟨Ao46, co46, eo46⟩ := Kd.R_slice HO252.out; subst eo46) | (go_at_call 17; (with_reducible refine (ringroadlaw26_ops.calls kj12 _ _ t250 _ _ yl t255 _ ?side1 ?side2 ?side3 ?side4 A37.out).mono ?_); (case side1 => refine (Kd.R_reads' (e := 30) (base := w.heap.size) (ok := fun k_ => True) (n := t250.length) (c := co46) ?_).2.2; exact (by (with_reducible repeat (first | apply Kd.R_alloc | apply Kd.R_drewN | apply Kd.R_drew)); exact (Kd.R_mono (Kd.R_far (p := ⟨gb254, 4, none⟩) (Kd.R_far (p := ⟨gb254, 3, none⟩) (Kd.R_far (p := ⟨gb254, 2, none⟩) (Kd.R_far (p := ⟨gb254, 1, none⟩) (Kd.R_far (p := ⟨gb254, 0, none⟩) (Kd.R_types HO252.out BK254.out (by decide)) (fun _ hk => hk.2) (.int .i64 t245)) (fun _ hk => hk.2) (.int .i64 t246)) (fun _ hk => hk.2) (.int .i64 t247)) (fun _ hk => hk.2) (.int .i64 t248)) (fun _ hk => hk.2) (.int .i64 t249)) (fun _ h_ => h_.1)))); (case side2 => exact (Kd.R_reads' HO252.out).2.1); (case side3 => exact Kd.C_below HRl.out (by repeat (first | (with_reducible first | exact HB.out | apply below_alloc | apply pw_below_drewN | apply below_drew1 | refine below_set ?_ GE230.out | refine below_set ?_ GE254.out) | exact HB.out))); (case side4 => exact HCl.out); rintro e w' ⟨rfl, ⟨nd, rfl⟩⟩; (try first | exact ⟨rfl, _, World.drewN_drewN _ _ _⟩ | exact ⟨rfl, _, Eq.trans (World.drewN_drewN _ _ _) (congrArg (World.drewN _) (Nat.add_assoc _ _ _))⟩)))
             repeat (go_quiet (first | (go_at_call 17; (with_reducible refine (ringroadlaw26_ops.calls kj12 _ _ l1 _ _ l2 t240 _ ?side1 ?side2 ?side3 ?side4 A24.out).mono ?_); (case side1 => repeat (first | exact (Kd.C_below HR1.out HB.out) | (with_reducible refine Kd.C_alloc ?_ _) | (with_reducible refine Kd.C_drewN ?_ _) | (with_reducible refine Kd.C_drew ?_))); (case side2 => exact HC1.out); (case side3 => repeat (first | exact (Kd.C_below HR2.out HB.out) | (with_reducible refine Kd.C_alloc ?_ _) | (with_reducible refine Kd.C_drewN ?_ _) | (with_reducible refine Kd.C_drew ?_))); (case side4 => exact HC2.out); rintro e w' ⟨rfl, ⟨nd, rfl⟩⟩; (try first | exact ⟨rfl, _, World.drewN_drewN _ _ _⟩ | exact ⟨rfl, _, Eq.trans (World.drewN_drewN _ _ _) (congrArg (World.drewN _) (Nat.add_assoc _ _ _))⟩); obtain ⟨Ao41, co41, eo41⟩ := Kd.R_slice HO_7.out; subst eo41; have q40 : ((ji32) : Int) ≤ ((t232.length : Int) : Int) := of_decide_eq_true (by first | (with_reducible assumption) | assumption); obtain ⟨i040, hi040, _, hsz40, _⟩ := info_parts info5; have hroom40 : t232.length ≤ co41 := (Kd.R_reads' HO_7.out).2.1; have hC40 : Kd.C (Kd.int .u8) _ Ao41 t232.length t232 := (Kd.R_reads' HO_7.out).2.2; have hcut40 := cut_to (P := Tryd.prog) 31 5 .i64 Tryd.underlying31 hi040 Ao41 t232.length co41 (ji32) (of_decide_eq_true (by first | (with_reducible assumption) | assumption)) q40 hroom40; have hr40 := Kd.C_take (m := ((ji32) : Int).toNat) hC40 (by omega); have hy40 : y241.length = ((ji32) : Int).toNat := (by rw [Ny241.out, List.length_take]; omega); rw [← Ny241.out] at hr40; rw [← hy40] at hcut40; have HR244 := Aside0.mk hr40; have HC244 := Aside0.mk (show y241.length ≤ co41 from by omega); clear hr40 hC40 hroom40 hi040 hsz40; have KY40 := Aside0.mk hy40; clear hy40; have KL40 := Aside0.mk (show ((ji32) : Int).toNat ≤ t232.length from by omega); replace q40 := eq_true q40) | (go_at_call 15; (with_reducible refine (wire_Decode.calls kj12 _ _ y241 t245 t246 t247 t248 t249 t250 t253 _ ?side1 ?side2 ?sideN A35.out).mono ?_); (case sideN => exact needs_now HN (by repeat (first | (with_reducible first | exact HB.out | apply below_alloc | apply pw_below_drewN | apply below_drew1 | refine below_set ?_ GE230.out) | exact HB.out))); (case side1 => repeat (first | exact (by repeat (first | (with_reducible exact HR244.out) | (with_reducible refine Kd.C_alloc ?_ _) | (with_reducible refine Kd.C_drewN ?_ _) | (with_reducible refine Kd.C_drew ?_) | exact HR244.out)) | (with_reducible refine Kd.C_alloc ?_ _) | (with_reducible refine Kd.C_drewN ?_ _) | (with_reducible refine Kd.C_drew ?_))); (case side2 => exact HC244.out); rintro e w42 ⟨v251, rfl, ho0, hb⟩; have n0_ := Aside0.mk (Kd.R_below (by (with_reducible repeat (first | apply Kd.R_alloc | apply Kd.R_drewN | apply Kd.R_drew)); exact HO_7.out) hb); have n1_ := Aside0.mk (Kd.R_below (by (with_reducible repeat (first | apply Kd.R_alloc | apply Kd.R_drewN | apply Kd.R_drew)); exact HO_9.out) hb); have n2_ := Aside0.mk (Kd.R_lower ho0 (below_size (by repeat (first | (with_reducible first | exact HB.out | apply below_alloc | apply pw_below_drewN | apply below_drew1 | refine below_set ?_ GE230.out) | exact HB.out)))); have n3_ := Aside0.mk (blk_below (g := gb230) (o := .cells #[.int .i64 a0_0, .int .i64 a0_1, .int .i64 a0_2, .int .i64 a0_3, .int .i64 a0_4] 23 (0, 0)) (by (with_reducible repeat (first | refine blk_drewN ?_ _ | refine blk_drew ?_ | refine blk_alloc ?_ _)); exact BK230.out) hb); have n4_ := Aside0.mk (Kd.C_below (by repeat (first | (with_reducible exact HR244.out) | (with_reducible refine Kd.C_alloc ?_ _) | (with_reducible refine Kd.C_drewN ?_ _) | (with_reducible refine Kd.C_drew ?_) | exact HR244.out)) hb); have n5_ := Aside0.mk (below_step (by repeat (first | (with_reducible first | exact HB.out | apply below_alloc | apply pw_below_drewN | apply below_drew1 | refine below_set ?_ GE230.out) | exact HB.out)) hb); clear HO_7; clear HO_9; clear BK230; clear HR244; clear HB; have HO_7 := n0_; have HO_9 := n1_; have HO252 := n2_; have BK230 := n3_; have HR244 := n4_; have HB := n5_; clear n0_ n1_ n2_ n3_ n4_ n5_; (try clear hb); (try clear hb2); (try clear hk); (try clear hi); (try clear ho0)) | ((with_reducible refine gate_dst (N := 11) rfl ?_); (try (refine gate_guard (by rfl) ?_; dsimp only)); refine box_event ?hg (N := 11) ?hd (cs := #[.int .i64 0, .int .i64 0, .int .i64 0, .int .i64 0, .int .i64 0]) (t := 23) ?hr ?_; (case hd => rfl); (case hg => rfl); (case hr => first | (go_simp; done) | (go_simp; rfl)); intro gb254 hg w43 hbox hb; have n0_ := Aside0.mk (Kd.R_below (by (with_reducible repeat (first | apply Kd.R_alloc | apply Kd.R_drewN | apply Kd.R_drew)); exact HO_7.out) hb); have n1_ := Aside0.mk (Kd.R_below (by (with_reducible repeat (first | apply Kd.R_alloc | apply Kd.R_drewN | apply Kd.R_drew)); exact HO_9.out) hb); have n2_ := Aside0.mk (Kd.R_below (by (with_reducible repeat (first | apply Kd.R_alloc | apply Kd.R_drewN | apply Kd.R_drew)); exact HO252.out) hb); have n3_ := Aside0.mk (blk_below (g := gb230) (o := .cells #[.int .i64 a0_0, .int .i64 a0_1, .int .i64 a0_2, .int .i64 a0_3, .int .i64 a0_4] 23 (0, 0)) (by (with_reducible repeat (first | refine blk_drewN ?_ _ | refine blk_drew ?_ | refine blk_alloc ?_ _)); exact BK230.out) hb); have n4_ := Aside0.mk (Kd.C_below (by repeat (first | (with_reducible exact HR244.out) | (with_reducible refine Kd.C_alloc ?_ _) | (with_reducible refine Kd.C_drewN ?_ _) | (with_reducible refine Kd.C_drew ?_) | exact HR244.out)) hb); have n5_ := Aside0.mk (below_step (by repeat (first | (with_reducible first | exact HB.out | apply below_alloc | apply pw_below_drewN | apply below_drew1 | refine below_set ?_ GE230.out) | exact HB.out)) hb); have n6_ := Aside0.mk (hbox); have n7_ := Aside0.mk ((by rw [hg]; exact (below_size (by repeat (first | (with_reducible first | exact HB.out | apply below_alloc | apply pw_below_drewN | apply below_drew1 | refine below_set ?_ GE230.out) | exact HB.out))) : w.heap.size ≤ gb254)); have n8_ := Aside0.mk ((by rw [hg]; exact (below_size (by repeat (first | (with_reducible first | exact HB.out | apply below_alloc | apply pw_below_drewN | apply below_drew1 | refine below_set ?_ GE230.out) | exact HB.out))) : w.heap.size ≤ gb254)); have n9_ := Aside0.mk ((by rw [hg]; exact Nat.ne_of_lt (blk_lt (g := gb230) (o := .cells #[.int .i64 a0_0, .int .i64 a0_1, .int .i64 a0_2, .int .i64 a0_3, .int .i64 a0_4] 23 (0, 0)) (by (with_reducible repeat (first | refine blk_drewN ?_ _ | refine blk_drew ?_ | refine blk_alloc ?_ _)); exact BK230.out)) : gb230 ≠ gb254)); have n10_ := Aside0.mk ((by rw [hg]; exact Nat.ne_of_gt (blk_lt (g := gb230) (o := .cells #[.int .i64 a0_0, .int .i64 a0_1, .int .i64 a0_2, .int .i64 a0_3, .int .i64 a0_4] 23 (0, 0)) (by (with_reducible repeat (first | refine blk_drewN ?_ _ | refine blk_drew ?_ | refine blk_alloc ?_ _)); exact BK230.out)) : gb254 ≠ gb230)); clear HO_7; clear HO_9; clear HO252; clear BK230; clear HR244; clear HB; have HO_7 := n0_; have HO_9 := n1_; have HO252 := n2_; have BK230 := n3_; have HR244 := n4_; have HB := n5_; have BK254 := n6_; have GW254 := n7_; have GE254 := n8_; have NB230_254 := n9_; have NB254_230 := n10_; clear n0_ n1_ n2_ n3_ n4_ n5_ n6_ n7_ n8_ n9_ n10_; clear hb hbox hg; have hnb44 := NB254_230.out; have hnc44 := NB230_254.out; have hcz45_0 : w43.cell? ⟨gb254, 0, none⟩ = some (.int .i64 0) := (blk_cell BK254.out 0).trans rfl; have hcz45_1 : w43.cell? ⟨gb254, 1, none⟩ = some (.int .i64 0) := (blk_cell BK254.out 1).trans rfl; have hcz45_2 : w43.cell? ⟨gb254, 2, none⟩ = some (.int .i64 0) := (blk_cell BK254.out 2).trans rfl; have hcz45_3 : w43.cell? ⟨gb254, 3, none⟩ = some (.int .i64 0) := (blk_cell BK254.out 3).trans rfl; have hcz45_4 : w43.cell? ⟨gb254, 4, none⟩ = some (.int .i64 0) := (blk_cell BK254.out 4).trans rfl; have hfz45_0 := blk_frozen BK254.out 0; have hfz45_1 := blk_frozen BK254.out 1; have hfz45_2 := blk_frozen BK254.out 2; have hfz45_3 := blk_frozen BK254.out 3; have hfz45_4 := blk_frozen BK254.out 4; obtain ⟨Ao46, co46, eo46⟩ := Kd.R_slice HO252.out; subst eo46) | (go_at_call 17; (with_reducible refine (ringroadlaw26_ops.calls kj12 _ _ t250 _ _ yl t255 _ ?side1 ?side2 ?side3 ?side4 A37.out).mono ?_); (case side1 => refine (Kd.R_reads' (e := 30) (base := w.heap.size) (ok := fun k_ => True) (n := t250.length) (c := co46) ?_).2.2; exact (by (with_reducible repeat (first | apply Kd.R_alloc | apply Kd.R_drewN | apply Kd.R_drew)); exact (Kd.R_mono (Kd.R_far (p := ⟨gb254, 4, none⟩) (Kd.R_far (p := ⟨gb254, 3, none⟩) (Kd.R_far (p := ⟨gb254, 2, none⟩) (Kd.R_far (p := ⟨gb254, 1, none⟩) (Kd.R_far (p := ⟨gb254, 0, none⟩) (Kd.R_types HO252.out BK254.out (by decide)) (fun _ hk => hk.2) (.int .i64 t245)) (fun _ hk => hk.2) (.int .i64 t246)) (fun _ hk => hk.2) (.int .i64 t247)) (fun _ hk => hk.2) (.int .i64 t248)) (fun _ hk => hk.2) (.int .i64 t249)) (fun _ h_ => h_.1)))); (case side2 => exact (Kd.R_reads' HO252.out).2.1); (case side3 => exact Kd.C_below HRl.out (by repeat (first | (with_reducible first | exact HB.out | apply below_alloc | apply pw_below_drewN | apply below_drew1 | refine below_set ?_ GE230.out | refine below_set ?_ GE254.out) | exact HB.out))); (case side4 => exact HCl.out); rintro e w' ⟨rfl, ⟨nd, rfl⟩⟩; (try first | exact ⟨rfl, _, World.drewN_drewN _ _ _⟩ | exact ⟨rfl, _, Eq.trans (World.drewN_drewN _ _ _) (congrArg (World.drewN _) (Nat.add_assoc _ _ _))⟩))); try go_wp2_with (first | (go_at_call 17; (with_reducible refine (ringroadlaw26_ops.calls kj12 _ _ l1 _ _ l2 t240 _ ?side1 ?side2 ?side3 ?side4 A24.out).mono ?_); (case side1 => repeat (first | exact (Kd.C_below HR1.out HB.out) | (with_reducible refine Kd.C_alloc ?_ _) | (with_reducible refine Kd.C_drewN ?_ _) | (with_reducible refine Kd.C_drew ?_))); (case side2 => exact HC1.out); (case side3 => repeat (first | exact (Kd.C_below HR2.out HB.out) | (with_reducible refine Kd.C_alloc ?_ _) | (with_reducible refine Kd.C_drewN ?_ _) | (with_reducible refine Kd.C_drew ?_))); (case side4 => exact HC2.out); rintro e w' ⟨rfl, ⟨nd, rfl⟩⟩; (try first | exact ⟨rfl, _, World.drewN_drewN _ _ _⟩ | exact ⟨rfl, _, Eq.trans (World.drewN_drewN _ _ _) (congrArg (World.drewN _) (Nat.add_assoc _ _ _))⟩); obtain ⟨Ao41, co41, eo41⟩ := Kd.R_slice HO_7.out; subst eo41; have q40 : ((ji32) : Int) ≤ ((t232.length : Int) : Int) := of_decide_eq_true (by first | (with_reducible assumption) | assumption); obtain ⟨i040, hi040, _, hsz40, _⟩ := info_parts info5; have hroom40 : t232.length ≤ co41 := (Kd.R_reads' HO_7.out).2.1; have hC40 : Kd.C (Kd.int .u8) _ Ao41 t232.length t232 := (Kd.R_reads' HO_7.out).2.2; have hcut40 := cut_to (P := Tryd.prog) 31 5 .i64 Tryd.underlying31 hi040 Ao41 t232.length co41 (ji32) (of_decide_eq_true (by first | (with_reducible assumption) | assumption)) q40 hroom40; have hr40 := Kd.C_take (m := ((ji32) : Int).toNat) hC40 (by omega); have hy40 : y241.length = ((ji32) : Int).toNat := (by rw [Ny241.out, List.length_take]; omega); rw [← Ny241.out] at hr40; rw [← hy40] at hcut40; have HR244 := Aside0.mk hr40; have HC244 := Aside0.mk (show y241.length ≤ co41 from by omega); clear hr40 hC40 hroom40 hi040 hsz40; have KY40 := Aside0.mk hy40; clear hy40; have KL40 := Aside0.mk (show ((ji32) : Int).toNat ≤ t232.length from by omega); replace q40 := eq_true q40) | (go_at_call 15; (with_reducible refine (wire_Decode.calls kj12 _ _ y241 t245 t246 t247 t248 t249 t250 t253 _ ?side1 ?side2 ?sideN A35.out).mono ?_); (case sideN => exact needs_now HN (by repeat (first | (with_reducible first | exact HB.out | apply below_alloc | apply pw_below_drewN | apply below_drew1 | refine below_set ?_ GE230.out) | exact HB.out))); (case side1 => repeat (first | exact (by repeat (first | (with_reducible exact HR244.out) | (with_reducible refine Kd.C_alloc ?_ _) | (with_reducible refine Kd.C_drewN ?_ _) | (with_reducible refine Kd.C_drew ?_) | exact HR244.out)) | (with_reducible refine Kd.C_alloc ?_ _) | (with_reducible refine Kd.C_drewN ?_ _) | (with_reducible refine Kd.C_drew ?_))); (case side2 => exact HC244.out); rintro e w42 ⟨v251, rfl, ho0, hb⟩; have n0_ := Aside0.mk (Kd.R_below (by (with_reducible repeat (first | apply Kd.R_alloc | apply Kd.R_drewN | apply Kd.R_drew)); exact HO_7.out) hb); have n1_ := Aside0.mk (Kd.R_below (by (with_reducible repeat (first | apply Kd.R_alloc | apply Kd.R_drewN | apply Kd.R_drew)); exact HO_9.out) hb); have n2_ := Aside0.mk (Kd.R_lower ho0 (below_size (by repeat (first | (with_reducible first | exact HB.out | apply below_alloc | apply pw_below_drewN | apply below_drew1 | refine below_set ?_ GE230.out) | exact HB.out)))); have n3_ := Aside0.mk (blk_below (g := gb230) (o := .cells #[.int .i64 a0_0, .int .i64 a0_1, .int .i64 a0_2, .int .i64 a0_3, .int .i64 a0_4] 23 (0, 0)) (by (with_reducible repeat (first | refine blk_drewN ?_ _ | refine blk_drew ?_ | refine blk_alloc ?_ _)); exact BK230.out) hb); have n4_ := Aside0.mk (Kd.C_below (by repeat (first | (with_reducible exact HR244.out) | (with_reducible refine Kd.C_alloc ?_ _) | (with_reducible refine Kd.C_drewN ?_ _) | (with_reducible refine Kd.C_drew ?_) | exact HR244.out)) hb); have n5_ := Aside0.mk (below_step (by repeat (first | (with_reducible first | exact HB.out | apply below_alloc | apply pw_below_drewN | apply below_drew1 | refine below_set ?_ GE230.out) | exact HB.out)) hb); clear HO_7; clear HO_9; clear BK230; clear HR244; clear HB; have HO_7 := n0_; have HO_9 := n1_; have HO252 := n2_; have BK230 := n3_; have HR244 := n4_; have HB := n5_; clear n0_ n1_ n2_ n3_ n4_ n5_; (try clear hb); (try clear hb2); (try clear hk); (try clear hi); (try clear ho0)) | ((with_reducible refine gate_dst (N := 11) rfl ?_); (try (refine gate_guard (by rfl) ?_; dsimp only)); refine box_event ?hg (N := 11) ?hd (cs := #[.int .i64 0, .int .i64 0, .int .i64 0, .int .i64 0, .int .i64 0]) (t := 23) ?hr ?_; (case hd => rfl); (case hg => rfl); (case hr => first | (go_simp; done) | (go_simp; rfl)); intro gb254 hg w43 hbox hb; have n0_ := Aside0.mk (Kd.R_below (by (with_reducible repeat (first | apply Kd.R_alloc | apply Kd.R_drewN | apply Kd.R_drew)); exact HO_7.out) hb); have n1_ := Aside0.mk (Kd.R_below (by (with_reducible repeat (first | apply Kd.R_alloc | apply Kd.R_drewN | apply Kd.R_drew)); exact HO_9.out) hb); have n2_ := Aside0.mk (Kd.R_below (by (with_reducible repeat (first | apply Kd.R_alloc | apply Kd.R_drewN | apply Kd.R_drew)); exact HO252.out) hb); have n3_ := Aside0.mk (blk_below (g := gb230) (o := .cells #[.int .i64 a0_0, .int .i64 a0_1, .int .i64 a0_2, .int .i64 a0_3, .int .i64 a0_4] 23 (0, 0)) (by (with_reducible repeat (first | refine blk_drewN ?_ _ | refine blk_drew ?_ | refine blk_alloc ?_ _)); exact BK230.out) hb); have n4_ := Aside0.mk (Kd.C_below (by repeat (first | (with_reducible exact HR244.out) | (with_reducible refine Kd.C_alloc ?_ _) | (with_reducible refine Kd.C_drewN ?_ _) | (with_reducible refine Kd.C_drew ?_) | exact HR244.out)) hb); have n5_ := Aside0.mk (below_step (by repeat (first | (with_reducible first | exact HB.out | apply below_alloc | apply pw_below_drewN | apply below_drew1 | refine below_set ?_ GE230.out) | exact HB.out)) hb); have n6_ := Aside0.mk (hbox); have n7_ := Aside0.mk ((by rw [hg]; exact (below_size (by repeat (first | (with_reducible first | exact HB.out | apply below_alloc | apply pw_below_drewN | apply below_drew1 | refine below_set ?_ GE230.out) | exact HB.out))) : w.heap.size ≤ gb254)); have n8_ := Aside0.mk ((by rw [hg]; exact (below_size (by repeat (first | (with_reducible first | exact HB.out | apply below_alloc | apply pw_below_drewN | apply below_drew1 | refine below_set ?_ GE230.out) | exact HB.out))) : w.heap.size ≤ gb254)); have n9_ := Aside0.mk ((by rw [hg]; exact Nat.ne_of_lt (blk_lt (g := gb230) (o := .cells #[.int .i64 a0_0, .int .i64 a0_1, .int .i64 a0_2, .int .i64 a0_3, .int .i64 a0_4] 23 (0, 0)) (by (with_reducible repeat (first | refine blk_drewN ?_ _ | refine blk_drew ?_ | refine blk_alloc ?_ _)); exact BK230.out)) : gb230 ≠ gb254)); have n10_ := Aside0.mk ((by rw [hg]; exact Nat.ne_of_gt (blk_lt (g := gb230) (o := .cells #[.int .i64 a0_0, .int .i64 a0_1, .int .i64 a0_2, .int .i64 a0_3, .int .i64 a0_4] 23 (0, 0)) (by (with_reducible repeat (first | refine blk_drewN ?_ _ | refine blk_drew ?_ | refine blk_alloc ?_ _)); exact BK230.out)) : gb254 ≠ gb230)); clear HO_7; clear HO_9; clear HO252; clear BK230; clear HR244; clear HB; have HO_7 := n0_; have HO_9 := n1_; have HO252 := n2_; have BK230 := n3_; have HR244 := n4_; have HB := n5_; have BK254 := n6_; have GW254 := n7_; have GE254 := n8_; have NB230_254 := n9_; have NB254_230 := n10_; clear n0_ n1_ n2_ n3_ n4_ n5_ n6_ n7_ n8_ n9_ n10_; clear hb hbox hg; have hnb44 := NB254_230.out; have hnc44 := NB230_254.out; have hcz45_0 : w43.cell? ⟨gb254, 0, none⟩ = some (.int .i64 0) := (blk_cell BK254.out 0).trans rfl; have hcz45_1 : w43.cell? ⟨gb254, 1, none⟩ = some (.int .i64 0) := (blk_cell BK254.out 1).trans rfl; have hcz45_2 : w43.cell? ⟨gb254, 2, none⟩ = some (.int .i64 0) := (blk_cell BK254.out 2).trans rfl; have hcz45_3 : w43.cell? ⟨gb254, 3, none⟩ = some (.int .i64 0) := (blk_cell BK254.out 3).trans rfl; have hcz45_4 : w43.cell? ⟨gb254, 4, none⟩ = some (.int .i64 0) := (blk_cell BK254.out 4).trans rfl; have hfz45_0 := blk_frozen BK254.out 0; have hfz45_1 := blk_frozen BK254.out 1; have hfz45_2 := blk_frozen BK254.out 2; have hfz45_3 := blk_frozen BK254.out 3; have hfz45_4 := blk_frozen BK254.out 4; obtain ⟨Ao46, co46, eo46⟩ := Kd.R_slice HO252.out; subst eo46) | (go_at_call 17; (with_reducible refine (ringroadlaw26_ops.calls kj12 _ _ t250 _ _ yl t255 _ ?side1 ?side2 ?side3 ?side4 A37.out).mono ?_); (case side1 => refine (Kd.R_reads' (e := 30) (base := w.heap.size) (ok := fun k_ => True) (n := t250.length) (c := co46) ?_).2.2; exact (by (with_reducible repeat (first | apply Kd.R_alloc | apply Kd.R_drewN | apply Kd.R_drew)); exact (Kd.R_mono (Kd.R_far (p := ⟨gb254, 4, none⟩) (Kd.R_far (p := ⟨gb254, 3, none⟩) (Kd.R_far (p := ⟨gb254, 2, none⟩) (Kd.R_far (p := ⟨gb254, 1, none⟩) (Kd.R_far (p := ⟨gb254, 0, none⟩) (Kd.R_types HO252.out BK254.out (by decide)) (fun _ hk => hk.2) (.int .i64 t245)) (fun _ hk => hk.2) (.int .i64 t246)) (fun _ hk => hk.2) (.int .i64 t247)) (fun _ hk => hk.2) (.int .i64 t248)) (fun _ hk => hk.2) (.int .i64 t249)) (fun _ h_ => h_.1)))); (case side2 => exact (Kd.R_reads' HO252.out).2.1); (case side3 => exact Kd.C_below HRl.out (by repeat (first | (with_reducible first | exact HB.out | apply below_alloc | apply pw_below_drewN | apply below_drew1 | refine below_set ?_ GE230.out | refine below_set ?_ GE254.out) | exact HB.out))); (case side4 => exact HCl.out); rintro e w' ⟨rfl, ⟨nd, rfl⟩⟩; (try first | exact ⟨rfl, _, World.drewN_drewN _ _ _⟩ | exact ⟨rfl, _, Eq.trans (World.drewN_drewN _ _ _) (congrArg (World.drewN _) (Nat.add_assoc _ _ _))⟩))))
             go_ret
             exact ⟨by first | rfl | (simp [errW_none, errW_some] <;> rfl) | (simp only [← hji32]; first | rfl | (simp [errW_none, errW_some] <;> rfl)) | (simp [*, errW_none, errW_some] <;> rfl), by repeat (first | (with_reducible first | exact HB.out | apply below_alloc | apply pw_below_drewN | apply below_drew1 | refine below_set ?_ GE230.out | refine below_set ?_ GE254.out) | exact HB.out)⟩
            ·
             rw [if_neg c36] at H; cases (Option.some.inj H).trans hr
           ·
            rw [if_neg c34] at H
            exact absurd H (by simp)
          ·
           rw [if_neg c33] at H
           exact absurd H (by simp)
 ·
  rw [if_neg c5] at H; cases (Option.some.inj H).trans hr
end Go.Proofs.YteapmebmgaggcaaDoor.PW
