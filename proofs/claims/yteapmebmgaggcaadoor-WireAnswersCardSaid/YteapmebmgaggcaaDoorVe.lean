import Derived.Test.YteapmebmgaggcaaDoorVd
namespace Go.Proofs.YteapmebmgaggcaaDoor.PW
open Go.RowKit Go.Proofs.YteapmebmgaggcaaDoorW.PrintWords Go.Proofs.YteapmebmgaggcaaDoorW.PrintLast Go.Proofs.YteapmebmgaggcaaDoorW.PrintMore
attribute [local go_sem] max2_int min2_int max_two min_two max_three min_three max_four min_four   -- for this text's walks alone
set_option linter.unusedVariables false
set_option linter.unusedSimpArgs false

/-! ### wire_laid: function 30 -/
def wire_laid.l0 : Nat → List Int → List Int → Int → Int → Option (List Int)
  | 0, _, _, _, _ => none
  | k + 1, x0, x7, x8, x9 => if x9 < x8 then (if 0 ≤ x9 then (if x9 < (x7.length : Int) then (if x0.length < 140737488355328 then (wire_laid.l0 k (x0 ++ [(rd x7 x9) % 256]) x7 x8 (wrap64 (x9 + 1))) else (none)) else (none)) else (none)) else (some x0)
def wire_laid.f (k : Nat) (l0 : List Int) (l1 : List Int) : Option (List Int) := wire_laid.l0 k l0 l1 (l1.length : Int) 0
theorem wire_laid.mono_l : ∀ k, (∀ y0 y1 y2 y3, LeO (wire_laid.l0 k y0 y1 y2 y3) (wire_laid.l0 (k + 1) y0 y1 y2 y3))
  | 0 => fun _ _ _ _ r h => by simp [wire_laid.l0] at h
  | k + 1 => by
    have ih0 := wire_laid.mono_l k
    · intro y0 y1 y2 y3
      unfold wire_laid.l0
      repeat' first
      | (with_reducible exact ih0 _ _ _ _)
      | (with_reducible exact LeO.refl _)
      | (with_reducible exact LeO.none _)
      | (with_reducible refine LeO.ite ?_ ?_)
      | (with_reducible refine LeO.bind ?_ (fun _ => ?_))
      | exact ih0 _ _ _ _
      | exact LeO.none _
      | refine LeO.ite ?_ ?_
      | refine LeO.bind ?_ (fun _ => ?_)
theorem wire_laid.mono : ∀ a0 a1 k, LeO (wire_laid.f k a0 a1) (wire_laid.f (k + 1) a0 a1) := by
  intro a0 a1 k
  have ih0 := wire_laid.mono_l k
  unfold wire_laid.f
  repeat' first
      | (with_reducible exact ih0 _ _ _ _)
      | (with_reducible exact LeO.refl _)
      | (with_reducible exact LeO.none _)
      | (with_reducible refine LeO.ite ?_ ?_)
      | (with_reducible refine LeO.bind ?_ (fun _ => ?_))
      | exact ih0 _ _ _ _
      | exact LeO.none _
      | refine LeO.ite ?_ ?_
      | refine LeO.bind ?_ (fun _ => ?_)
set_option maxHeartbeats 8000000 in
set_option maxRecDepth 100000 in
theorem wire_laid.calls (k : Nat) (P0_ : Nat → Prop) (u9000_ : Value) (l0 : List Int) (A1 : Option Addr) (c1 : Nat) (l1 : List Int) (r : List Int) (w0 w : World) (hB : Below w0.heap.size w0 w) (ho0 : Kd.R (Kd.int .u8) 5 w w0.heap.size P0_ u9000_ l0) (hr1 : ∀ W_, Kept w W_ (fun k_ => P0_ k_) → Kd.C (Kd.int .i64) W_ A1 l1.length l1) (hc1 : l1.length ≤ c1) (h : wire_laid.f k l0 l1 = some r) :
    Calls Tryd.prog 30 #[u9000_, .slice A1 l1.length c1] w fun e w' => ∃ v0_ : Value, e = .returned (v0_) ∧ Kd.R (Kd.int .u8) 5 w' w0.heap.size (fun k_ => (P0_ k_ ∨ w.heap.size ≤ k_)) v0_ r ∧ Below w0.heap.size w0 w' ∧ Kept w w' (fun k_ => P0_ k_) := by
  have HO0 := Aside0.mk (show Kd.R (Kd.int .u8) 5 w w0.heap.size (fun k_ => (P0_ k_ ∨ w.heap.size ≤ k_)) u9000_ l0 from Kd.R_mono ho0 (fun k_ hk => (.inl hk)))
  have HR1 := Aside0.mk hr1
  have HC1 := Aside0.mk hc1
  clear hr1 hc1
  have HK := Aside0.mk (Kept.refl w (fun k_ => P0_ k_))
  have HW0 := Aside0.mk hB.size
  have HB := Aside0.mk hB
  clear hB
  have H : (wire_laid.l0 k l0 l1 (l1.length : Int) 0) = some r := h
  clear h
  have H' := Aside0.mk H
  clear H
  go_enter Tryd.func30, Tryd.ntmps30
  go_wp2
  go_loopg [0, 9] k (fun kq v0 v9 w' => ∃ (x0_1 : List Int) (x9_1 : Int), v9 = .int .i64 x9_1 ∧ Aside0 (wire_laid.l0 kq x0_1 l1 (l1.length : Int) x9_1 = some r) ∧ Aside0 (kq ≤ k) ∧ Aside0 (Kd.R (Kd.int .u8) 5 w' w0.heap.size (fun k_ => (P0_ k_ ∨ w.heap.size ≤ k_)) v0 x0_1) ∧ Aside0 (Kept w w' (fun k_ => P0_ k_)) ∧ Aside0 (Below w0.heap.size w0 w'))
  case atStart => exact ⟨(l0), (0), (by first | rfl | (simp; done) | (simp [*]; done)), H', ⟨Nat.le_refl _⟩, ⟨by (with_reducible repeat (first | apply Kd.R_alloc | apply Kd.R_drewN | apply Kd.R_drew)); exact HO0.out⟩, ⟨by repeat (first | (with_reducible first | exact HK.out | apply Kept.alloc | apply Kept.drewN | apply Kept.drew) | exact HK.out)⟩, ⟨by repeat (first | (with_reducible first | exact HB.out | apply below_alloc | apply pw_below_drewN | apply below_drew1) | exact HB.out)⟩⟩
  case round =>
    clear H'
    try clear c1
    try clear p2
    obtain ⟨x0_1, x9_1, rfl, HA, HK1, HO_0, HK, HB⟩ := hrel
    cases gk with
    | zero => exact absurd HA.out (by simp [wire_laid.l0])
    | succ k1 =>
      have H := HA.out
      clear HA
      simp only [wire_laid.l0] at H
      by_cases c3 : x9_1 < (l1.length : Int)
      · rw [if_pos c3] at H
        have c3b0 : decide (x9_1 < (l1.length : Int)) = true := decide_eq_true c3
        clear c3
        by_cases c4 : 0 ≤ x9_1
        · rw [if_pos c4] at H
          have c4b0 : decide (0 ≤ x9_1) = true := decide_eq_true c4
          clear c4
          by_cases c5 : x9_1 < (l1.length : Int)
          · rw [if_pos c5] at H
            have c5b0 : decide (x9_1 < (l1.length : Int)) = true := decide_eq_true c5
            clear c5
            by_cases c6 : x0_1.length < 140737488355328
            · rw [if_pos c6] at H
              have LMc6 := Aside0.mk c6
              clear c6
              obtain ⟨y115, hy115⟩ : ∃ y_ : List Int, y_ = (x0_1 ++ [(rd l1 x9_1) % 256]) := ⟨_, rfl⟩
              replace H : (wire_laid.l0 k1 y115 l1 (l1.length : Int) (wrap64 (x9_1 + 1))) = some r := by first | (rw [hy115]; with_reducible exact H) | (have H2_ := (Option.bind_some _ _).symm.trans H; rw [hy115]; with_reducible exact H2_) | (have H2_ := (Option.bind_some _ _).symm.trans H; with_reducible exact H2_) | with_reducible exact H | (rw [hy115]; exact H) | exact H
              have Ny115 := Aside0.mk hy115
              clear hy115
              have H' := Aside0.mk H
              clear H
              have p114 : 0 ≤ (x9_1 : Int) := of_decide_eq_true (by first | (with_reducible assumption) | assumption)
              have q114 : x9_1 < (l1.length : Int) := of_decide_eq_true (by first | (with_reducible assumption) | assumption)
              obtain ⟨ad114, e114, hx114_0⟩ := Kd.at_int (Kd.C_kept_now HR1.out HK.out) x9_1 p114 q114
              cases e114
              replace p114 := eq_true p114
              replace q114 := eq_true q114
              go_wp2_with (first | ((with_reducible refine gate_builtin (b := .append) (xs := #[.tmp 13, .tmp 16]) rfl ?_); at_builtin; refine Kd.R_append (Kd.int .u8) (w0 := w0) w0.heap.size rfl (.tmp 13) (.tmp 16) 31 5 (.int .u8 0) 1 rfl Tryd.underlying31 info5 rfl (by decide) (by omega) u0 x0_1 ((rd l1 x9_1) % 256) [.int .u8 ((rd l1 x9_1) % 256)] (fun k_ => (P0_ k_ ∨ w.heap.size ≤ k_)) (fun _ => False) rfl rfl ?aP (fun _ hk => hk.elim) ?aF ?aO ?aB ?aS ?aL ?_; (case aP => exact rfl); (case aB => exact (by repeat (first | (with_reducible first | exact HB.out | apply below_alloc | apply pw_below_drewN | apply below_drew1) | exact HB.out))); (case aF => exact (fun k_ hk => (.inr (Nat.le_trans (by first | exact HK.out.1 | exact (show Kept w _ (fun k_ => P0_ k_) from by repeat (first | (with_reducible first | exact HK.out | apply Kept.alloc | apply Kept.drewN | apply Kept.drew) | exact HK.out)).1) hk)))); (case aO => exact (by (with_reducible repeat (first | apply Kd.R_alloc | apply Kd.R_drewN | apply Kd.R_drew)); exact HO_0.out)); (case aS => exact (below_size (by repeat (first | (with_reducible first | exact HB.out | apply below_alloc | apply pw_below_drewN | apply below_drew1) | exact HB.out)))); (case aL => have := LMc6.out; omega); intro v116 w7 ho hb hg hat; rw [← Ny115.out] at ho; have n0_ := Aside0.mk (hb); have n1_ := Aside0.mk (Kept.of_grown (S := (fun k_ => P0_ k_)) hg (by repeat (first | (with_reducible first | exact HK.out | apply Kept.alloc | apply Kept.drewN | apply Kept.drew) | exact HK.out)) (fun k_ e_ => (HO_0.out.1 k_ e_))); have n2_ := Aside0.mk (ho); clear HB; clear HK; clear HO_0; have HB := n0_; have HK := n1_; have HO117 := n2_; clear n0_ n1_ n2_; clear ho hb hg hat))
              go_roundg k1
              case measure => have := HK1.out; omega
              case rel => exact ⟨(y115), (wrap64 (x9_1 + 1)), (by first | rfl | (simp; done) | (simp [*]; done)), H', ⟨by have := HK1.out; omega⟩, ⟨by (with_reducible repeat (first | apply Kd.R_alloc | apply Kd.R_drewN | apply Kd.R_drew)); exact HO117.out⟩, ⟨by repeat (first | (with_reducible first | exact HK.out | apply Kept.alloc | apply Kept.drewN | apply Kept.drew) | exact HK.out)⟩, ⟨by repeat (first | (with_reducible first | exact HB.out | apply below_alloc | apply pw_below_drewN | apply below_drew1) | exact HB.out)⟩⟩
            · rw [if_neg c6] at H
              exact absurd H (by simp)
          · rw [if_neg c5] at H
            exact absurd H (by simp)
        · rw [if_neg c4] at H
          exact absurd H (by simp)
      · rw [if_neg c3] at H
        have c3b0 : decide (x9_1 < (l1.length : Int)) = false := decide_eq_false c3
        clear c3
        obtain rfl := Option.some.inj H
        go_wp2
        go_ret
        exact ⟨_, by first | rfl | (simp [errW_none, errW_some] <;> rfl) | (simp [*, errW_none, errW_some] <;> rfl), by (with_reducible repeat (first | apply Kd.R_alloc | apply Kd.R_drewN | apply Kd.R_drew)); exact HO_0.out, by repeat (first | (with_reducible first | exact HB.out | apply below_alloc | apply pw_below_drewN | apply below_drew1) | exact HB.out), by repeat (first | (with_reducible first | exact HK.out | apply Kept.alloc | apply Kept.drewN | apply Kept.drew) | exact HK.out)⟩
theorem at_nums (ad : Addr) {w : World} {n : Nat} {xs : List Int} (h : ReadsInt w .u8 (some ad) n xs) : ∀ j u, (nums .u8 xs)[j]? = some u → w.cell? (ad.add j) = some u := by
  intro j u hj
  have hjl : j < n := by
    have := (List.getElem?_eq_some_iff.1 hj).1
    rw [nums_len, h.1] at this
    exact this
  obtain ⟨ad', e, hc⟩ := reads_nat h j hjl
  obtain rfl := Option.some.inj e
  rw [hc, ← hj]
  unfold nums
  rw [List.getElem?_map, List.getElem?_eq_getElem (by rw [h.1]; exact hjl)]
  simp [List.getD_eq_getElem?_getD, List.getElem?_eq_getElem (show j < xs.length by rw [h.1]; exact hjl)]
set_option maxHeartbeats 8000000 in
set_option maxRecDepth 100000 in
/-- 'laid' onto a full row that is only read. -/
theorem wire_laid.calls_full (k : Nat) (ad0 : Addr) (l0 : List Int) (A1 : Option Addr) (c1 : Nat) (l1 : List Int) (r : List Int) (w : World) (hr0 : Kd.C (Kd.int .u8) w (some ad0) l0.length l0) (hr1 : Kd.C (Kd.int .i64) w A1 l1.length l1) (hc1 : l1.length ≤ c1) (hpos : 0 < l1.length) (hsm : l0.length < 1000000) (h : wire_laid.f k l0 l1 = some r) :
    Calls Tryd.prog 30 #[.slice (some ad0) l0.length l0.length, .slice A1 l1.length c1] w fun e w' => ∃ v0_ : Value, e = .returned (v0_) ∧ Kd.R (Kd.int .u8) 5 w' w.heap.size (fun _ => True) v0_ r ∧ Below w.heap.size w w' := by
  have HR0 := Aside0.mk hr0
  have HR1 := Aside0.mk hr1
  have HC1 := Aside0.mk hc1
  have HP := Aside0.mk hpos
  clear hr0 hr1 hc1 hpos
  have HB := Aside0.mk (Below.refl w.heap.size w)
  obtain ⟨i5, I5⟩ : ∃ i, Aside0 (Tryd.prog.info? 5 = some i ∧ i.zero = some (.int .u8 0) ∧ i.size = 1 ∧ i.bytes = 1) := by
    have h := info5
    cases hi : Tryd.prog.info? 5 with
    | none => rw [hi] at h; cases h
    | some i =>
      rw [hi] at h
      have h := Option.some.inj h
      simp only [Prod.mk.injEq] at h
      exact ⟨i, ⟨rfl, h.1, h.2.1, h.2.2⟩⟩
  have H : (wire_laid.l0 k l0 l1 (l1.length : Int) 0) = some r := h
  clear h
  have H' := Aside0.mk H
  clear H
  go_enter Tryd.func30, Tryd.ntmps30
  go_wp2
  go_loopg [0, 9] k (fun kq v0 v9 w' => ∃ (x0_1 : List Int) (x9_1 : Int), v9 = .int .i64 x9_1 ∧ Aside0 (wire_laid.l0 kq x0_1 l1 (l1.length : Int) x9_1 = some r) ∧ Aside0 (kq ≤ k) ∧ Aside0 ((x9_1 = 0 ∧ x0_1 = l0 ∧ v0 = .slice (some ad0) l0.length l0.length) ∨ (0 < x9_1 ∧ Kd.R (Kd.int .u8) 5 w' w.heap.size (fun _ => True) v0 x0_1)) ∧ Aside0 (Below w.heap.size w w'))
  case atStart => exact ⟨l0, 0, rfl, H', ⟨Nat.le_refl _⟩, ⟨.inl ⟨rfl, rfl, rfl⟩⟩, HB⟩
  case round =>
    clear H'
    clear HB
    obtain ⟨x0_1, x9_1, rfl, HA, HK1, HO_0, HB⟩ := hrel
    cases gk with
    | zero => exact absurd HA.out (by simp [wire_laid.l0])
    | succ k1 =>
      have H := HA.out
      clear HA
      simp only [wire_laid.l0] at H
      rcases HO_0.out with ⟨rfl, rfl, rfl⟩ | ⟨hp9, HR⟩
      · clear HO_0
        have c3 : (0 : Int) < (l1.length : Int) := by have := HP.out; omega
        rw [if_pos c3, if_pos (by omega : (0 : Int) ≤ 0), if_pos c3, if_pos (by omega)] at H
        have c3b0 : decide ((0 : Int) < (l1.length : Int)) = true := decide_eq_true c3
        obtain ⟨y115, hy115⟩ : ∃ y_ : List Int, y_ = (x0_1 ++ [(rd l1 0) % 256]) := ⟨_, rfl⟩
        rw [← hy115, show wrap64 (0 + 1) = 1 from by unfold wrap64; omega] at H
        have Ny115 := Aside0.mk hy115
        clear hy115
        have H' := Aside0.mk H
        clear H
        obtain ⟨ad114, e114, hx114_0⟩ := Kd.at_int (Kd.C_below HR1.out HB.out) 0 (by omega) c3
        cases e114
        have hz114 : ad114.add (Int.toNat 0) = ad114 := by simp [Addr.add]
        rw [hz114] at hx114_0
        clear hz114
        have c3b1 : decide (0 < l1.length) = true := decide_eq_true (by omega)
        have q114 : ((0 : Int) < (l1.length : Int)) = True := eq_true c3
        have qi114 : (0 < l1.length) = True := eq_true (by omega)
        clear c3
        go_wp2_with (first | ((with_reducible refine gate_builtin (b := .append) (xs := #[.tmp 13, .tmp 16]) rfl ?_); at_builtin; refine wpList_append_grows _ rfl (.tmp 13) (.tmp 16) 31 rfl 5 i5 (.int .u8 0) 1 1 Tryd.underlying31 I5.out.1 I5.out.2.1 I5.out.2.2.1 I5.out.2.2.2 rfl (by decide) (some ad0) x0_1.length x0_1.length (nums .u8 x0_1) rfl (by intro h; cases h) (by rw [nums_len, Nat.mul_one]) (by intro b hb; obtain rfl := Option.some.inj hb; exact at_nums _ ((reads8 HR0.out).below (below_alloc HB.out _))) ⟨wr.heap.size, 0, none⟩ 1 1 [.int .u8 (rd l1 0 % 256)] rfl rfl (cell_one_new _ _ _) (by intro u hu; rw [List.mem_singleton] at hu; subst hu; rfl) (by omega) (by simp only [maxLen]; omega) (by omega) ?_; intro v116 w7 ho hg; have n0_ := Aside0.mk (ho); have n1_ := Aside0.mk (hg); clear ho hg))
        have hb7 := Aside0.mk (HB.out.alloc HB.out.size (.cells #[.int .u8 (rd l1 0 % 256)] 5))
        have hR7 : Kd.R (Kd.int .u8) 5 w7 w.heap.size (fun _ => True) v116 y115 := by
          have ho := n0_.out
          rw [show nums .u8 x0_1 ++ [.int .u8 (rd l1 0 % 256)] = nums .u8 y115 by rw [Ny115.out]; simp [nums], show x0_1.length + 1 = y115.length by rw [Ny115.out]; simp] at ho
          exact Kd.R_lower (r8 ho) hb7.out.size
        have hB7 : Below w.heap.size w w7 := hb7.out.grown n1_.out hb7.out.size (fun k hk => by cases hk)
        replace hR7 := Aside0.mk hR7
        replace hB7 := Aside0.mk hB7
        clear n0_ n1_ hb7
        go_roundg k1
        case measure => have := HK1.out; omega
        case rel => exact ⟨y115, 1, rfl, H', ⟨by have := HK1.out; omega⟩, ⟨.inr ⟨by decide, hR7.out⟩⟩, hB7⟩
      · clear HO_0
        replace HR := Aside0.mk HR
        by_cases c3 : x9_1 < (l1.length : Int)
        · have h9 : 0 ≤ x9_1 := by omega
          by_cases c6 : x0_1.length < 140737488355328
          · rw [if_pos c3, if_pos h9, if_pos c3, if_pos c6] at H
            have LMc6 := Aside0.mk c6
            clear c6
            have c3b0 : decide (x9_1 < (l1.length : Int)) = true := decide_eq_true c3
            obtain ⟨y115, hy115⟩ : ∃ y_ : List Int, y_ = (x0_1 ++ [(rd l1 x9_1) % 256]) := ⟨_, rfl⟩
            rw [← hy115] at H
            have Ny115 := Aside0.mk hy115
            clear hy115
            have H' := Aside0.mk H
            clear H
            obtain ⟨ad114, e114, hx114_0⟩ := Kd.at_int (Kd.C_below HR1.out HB.out) x9_1 h9 c3
            cases e114
            have hlm : l1.length ≤ 9223372036854775807 := HR1.out.2.1
            have p114 : (0 ≤ x9_1) = True := eq_true h9
            have q114 : (x9_1 < (l1.length : Int)) = True := eq_true c3
            clear c3 h9
            go_wp2_with (first | ((with_reducible refine gate_builtin (b := .append) (xs := #[.tmp 13, .tmp 16]) rfl ?_); at_builtin; refine Kd.R_append (Kd.int .u8) (w0 := w) w.heap.size rfl (.tmp 13) (.tmp 16) 31 5 (.int .u8 0) 1 rfl Tryd.underlying31 info5 rfl (by decide) (by omega) u0 x0_1 ((rd l1 x9_1) % 256) [.int .u8 ((rd l1 x9_1) % 256)] (fun _ => True) (fun _ => False) rfl rfl ?aP (fun _ hk => hk.elim) ?aF ?aO ?aB ?aS ?aL ?_; (case aP => exact rfl); (case aB => exact (by repeat (first | (with_reducible first | exact HB.out | apply below_alloc | apply pw_below_drewN | apply below_drew1) | exact HB.out))); (case aF => exact (fun _ _ => trivial)); (case aO => exact (by (with_reducible repeat (first | apply Kd.R_alloc | apply Kd.R_drewN | apply Kd.R_drew)); exact HR.out)); (case aS => exact (below_size (by repeat (first | (with_reducible first | exact HB.out | apply below_alloc | apply pw_below_drewN | apply below_drew1) | exact HB.out)))); (case aL => have := LMc6.out; omega); intro v116 w7 ho hb hg hat; rw [← Ny115.out] at ho; have n0_ := Aside0.mk (hb); have n2_ := Aside0.mk (ho); clear HB; clear HR; have HB := n0_; have HO117 := n2_; clear n0_ n2_; clear ho hb hg hat))
            go_roundg k1
            case measure => have := HK1.out; omega
            case rel => exact ⟨y115, (wrap64 (x9_1 + 1)), (by first | rfl | (simp; done) | (simp [*]; done)), H', ⟨by have := HK1.out; omega⟩, ⟨.inr ⟨by have h1 := of_eq_true q114; have h2 := of_eq_true p114; unfold wrap64; omega, HO117.out⟩⟩, HB⟩
          · rw [if_pos c3, if_pos h9, if_pos c3, if_neg c6] at H
            exact absurd H (by simp)
        · rw [if_neg c3] at H
          obtain rfl := Option.some.inj H
          have c3b0 : decide (x9_1 < (l1.length : Int)) = false := decide_eq_false c3
          clear c3
          go_wp2
          go_ret
          exact ⟨_, rfl, HR.out, HB.out⟩

end Go.Proofs.YteapmebmgaggcaaDoor.PW
