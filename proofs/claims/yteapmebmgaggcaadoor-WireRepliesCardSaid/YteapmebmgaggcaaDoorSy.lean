import Derived.Test.YteapmebmgaggcaaDoorVb
import Derived.Test.YteapmebmgaggcaaDoorVe
import Derived.Test.YteapmebmgaggcaaDoorVa
namespace Go.Proofs.YteapmebmgaggcaaDoor.PW
open Go.RowKit Go.Proofs.YteapmebmgaggcaaDoorW.PrintWords Go.Proofs.YteapmebmgaggcaaDoorW.PrintLast Go.Proofs.YteapmebmgaggcaaDoorW.PrintMore
set_option linter.unusedVariables false
set_option linter.unusedSimpArgs false

/-! #### may an answer be laid? -/
def negP (x : Int) : Bool := decide (x < 0)
def outP (x : Int) : Bool := !decide (0 ≤ x ∧ x ≤ 255)
theorem f45_any (x : Int) (w : World) : Calls Tryd.prog 45 #[.int .i64 x] w fun e w' => e = .returned (.bool (negP x)) ∧ Below w.heap.size w w' := by
  unfold negP
  go_enter Tryd.func45, Tryd.ntmps45
  go_wp2
  go_ret
  exact ⟨rfl, Below.refl _ _⟩
theorem f46_any (x : Int) (w : World) : Calls Tryd.prog 46 #[.int .i64 x] w fun e w' => e = .returned (.bool (outP x)) ∧ Below w.heap.size w w' := by
  by_cases h : 0 ≤ x ∧ x ≤ 255
  · have e : outP x = false := by unfold outP; rw [decide_eq_true h]; rfl
    rw [e]
    have h' := Aside0.mk h
    clear h e
    go_enter Tryd.func46, Tryd.ntmps46
    go_wp2_with (go_at_call 26; refine (within_yes _ _ _ (h'.out).1 (h'.out).2).mono ?_; rintro e w2 ⟨rfl, rfl⟩)
    go_ret
    exact ⟨rfl, Below.refl _ _⟩
  · have e : outP x = true := by unfold outP; rw [decide_eq_false h]; rfl
    rw [e]
    have h' := Aside0.mk h
    clear h e
    go_enter Tryd.func46, Tryd.ntmps46
    go_wp2_with (go_at_call 26; refine (within_no _ _ _ h'.out).mono ?_; rintro e w2 ⟨rfl, rfl⟩)
    go_ret
    exact ⟨rfl, Below.refl _ _⟩
/-- The first with p, or -1. -/
def idxP (p : Int → Bool) : List Int → Nat → Int
  | [], _ => -1
  | x :: r, k => if p x = true then k else idxP p r (k + 1)
theorem idxP_skip (p : Int → Bool) (l : List Int) (k n : Nat) (hk : k ≤ l.length) (h : ∀ j, j < k → p (l.getD j 0) = false) : idxP p l n = idxP p (l.drop k) (n + k) := by
  induction k generalizing l n with
  | zero => rfl
  | succ k ih =>
    cases l with
    | nil => simp at hk
    | cons o r =>
      have h0 : p o = false := h 0 (by omega)
      rw [idxP, if_neg (by rw [h0]; simp), List.drop_succ_cons, ih r (n + 1) (by simp at hk; omega) (fun j hj => by have := h (j + 1) (by omega); simpa using this)]
      congr 1
      omega
theorem idxP_neg (p : Int → Bool) (l : List Int) (n : Nat) : (idxP p l n < 0) ↔ l.any p = false := by
  induction l generalizing n with
  | nil => simp [idxP]
  | cons o r ih =>
    unfold idxP
    cases h : p o
    · rw [if_neg (by simp), ih]; simp [h]
    · rw [if_pos rfl]
      have : ¬ ((n : Int) < 0) := by omega
      simp [h, this]
theorem idxP_any (p : Int → Bool) (l : List Int) : decide (0 ≤ idxP p l 0) = l.any p := by
  have h := idxP_neg p l 0
  cases hb : l.any p
  · have := h.2 hb
    exact decide_eq_false (by omega)
  · have : ¬ idxP p l 0 < 0 := fun h2 => by have := h.1 h2; rw [hb] at this; cases this
    exact decide_eq_true (by omega)
theorem index_neg (A : Option Addr) (c : Nat) (l : List Int) (w : World) (hr : Kd.C (Kd.int .i64) w A l.length l) (hc : l.length ≤ c) :
    Calls Tryd.prog 47 #[.slice A l.length c, .func (.func 45) #[] #[]] w fun e w' => e = .returned (.int .i64 (idxP negP l 0)) ∧ Below w.heap.size w w' := by
  have hr' := Aside0.mk hr
  have hM := Aside0.mk (fun x W => f45_any x W)
  have hlb : l.length ≤ 9223372036854775807 := hr.2.1
  clear hr
  go_enter Tryd.func47, Tryd.ntmps47
  go_wp2_with fail
  go_loopw [8] (fun i wr => ∃ k : Nat, k ≤ l.length ∧ i = .int .i64 k ∧ Aside0 (∀ j, j < k → negP (l.getD j 0) = false) ∧ Aside0 (Below w.heap.size w wr)) (fun i _ => l.length - (intOf i).toNat)
  case atStart => exact ⟨0, Nat.zero_le _, rfl, ⟨fun j h => absurd h (Nat.not_lt_zero j)⟩, ⟨Below.refl _ _⟩⟩
  case round =>
    obtain ⟨k, hk, rfl, hK, hB⟩ := hrel
    by_cases hlt : k < l.length
    · obtain ⟨ad, rfl, h0⟩ := Kd.at_int (Kd.C_below hr'.out hB.out) (k : Int) (by omega) (by omega)
      rw [Int.toNat_natCast] at h0
      obtain ⟨o, ho⟩ : ∃ o, o = l.getD k 0 := ⟨_, rfl⟩
      have ho2 : rd l (k : Int) = o := by rw [ho]; unfold rd; rw [Int.toNat_natCast]
      rw [ho2] at h0
      clear ho2
      replace ho := Aside0.mk ho
      have hm := Aside0.mk (hM.out o)
      cases hmb : negP o
      · rw [hmb] at hm
        replace hmb := Aside0.mk hmb
        go_wp2_with (go_at_call 45; refine (hm.out _).mono ?_; rintro e w1 ⟨rfl, hB1⟩; replace hB1 := Aside0.mk (below_step hB.out hB1))
        go_roundw
        case rel => exact ⟨k + 1, by omega, by go_num, ⟨fun j hj => by
          rcases Nat.lt_or_ge j k with h | h
          · exact hK.out j h
          · obtain rfl : j = k := by omega
            rw [← ho.out]; exact hmb.out⟩, hB1⟩
        case measure => simp [intOf]; omega
      · rw [hmb] at hm
        replace hmb := Aside0.mk hmb
        have hI := Aside0.mk (show idxP negP l 0 = (k : Int) from by
          rw [idxP_skip negP l k 0 hk hK.out, List.drop_eq_getElem_cons hlt, idxP, if_pos (by have h := hmb.out; rw [ho.out, List.getD_eq_getElem?_getD, List.getElem?_eq_getElem hlt] at h; exact h)]
          simp)
        go_wp2_with (go_at_call 45; refine (hm.out _).mono ?_; rintro e w1 ⟨rfl, hB1⟩; replace hB1 := Aside0.mk (below_step hB.out hB1))
        go_ret
        exact ⟨congrArg (fun z => Ending.returned (Value.int .i64 z)) hI.out.symm, hB1.out⟩
    · obtain rfl : k = l.length := by omega
      have hI := Aside0.mk (show idxP negP l 0 = -1 from by
        rw [idxP_skip negP l l.length 0 hk hK.out, List.drop_length]; rfl)
      go_wp2_with fail
      go_ret
      exact ⟨congrArg (fun z => Ending.returned (Value.int .i64 z)) hI.out.symm, hB.out⟩
theorem contains_neg (A : Option Addr) (c : Nat) (l : List Int) (w : World) (hr : Kd.C (Kd.int .i64) w A l.length l) (hc : l.length ≤ c) :
    Calls Tryd.prog 44 #[.slice A l.length c, .func (.func 45) #[] #[]] w fun e w' => e = .returned (.bool (l.any negP)) ∧ Below w.heap.size w w' := by
  have hM := Aside0.mk (index_neg A c l w hr hc)
  rw [← idxP_any negP l]
  clear hr hc
  obtain ⟨i, hi⟩ : ∃ i, i = idxP negP l 0 := ⟨_, rfl⟩
  rw [← hi] at hM ⊢
  clear hi
  go_enter Tryd.func44, Tryd.ntmps44
  go_wp2_with (go_at_call 47; refine hM.out.mono ?_; rintro e w1 ⟨rfl, hB1⟩; replace hB1 := Aside0.mk hB1)
  go_ret
  exact ⟨rfl, hB1.out⟩
theorem index_out (A : Option Addr) (c : Nat) (l : List Int) (w : World) (hr : Kd.C (Kd.int .i64) w A l.length l) (hc : l.length ≤ c) :
    Calls Tryd.prog 47 #[.slice A l.length c, .func (.func 46) #[] #[]] w fun e w' => e = .returned (.int .i64 (idxP outP l 0)) ∧ Below w.heap.size w w' := by
  have hr' := Aside0.mk hr
  have hM := Aside0.mk (fun x W => f46_any x W)
  have hlb : l.length ≤ 9223372036854775807 := hr.2.1
  clear hr
  go_enter Tryd.func47, Tryd.ntmps47
  go_wp2_with fail
  go_loopw [8] (fun i wr => ∃ k : Nat, k ≤ l.length ∧ i = .int .i64 k ∧ Aside0 (∀ j, j < k → outP (l.getD j 0) = false) ∧ Aside0 (Below w.heap.size w wr)) (fun i _ => l.length - (intOf i).toNat)
  case atStart => exact ⟨0, Nat.zero_le _, rfl, ⟨fun j h => absurd h (Nat.not_lt_zero j)⟩, ⟨Below.refl _ _⟩⟩
  case round =>
    obtain ⟨k, hk, rfl, hK, hB⟩ := hrel
    by_cases hlt : k < l.length
    · obtain ⟨ad, rfl, h0⟩ := Kd.at_int (Kd.C_below hr'.out hB.out) (k : Int) (by omega) (by omega)
      rw [Int.toNat_natCast] at h0
      obtain ⟨o, ho⟩ : ∃ o, o = l.getD k 0 := ⟨_, rfl⟩
      have ho2 : rd l (k : Int) = o := by rw [ho]; unfold rd; rw [Int.toNat_natCast]
      rw [ho2] at h0
      clear ho2
      replace ho := Aside0.mk ho
      have hm := Aside0.mk (hM.out o)
      cases hmb : outP o
      · rw [hmb] at hm
        replace hmb := Aside0.mk hmb
        go_wp2_with (go_at_call 46; refine (hm.out _).mono ?_; rintro e w1 ⟨rfl, hB1⟩; replace hB1 := Aside0.mk (below_step hB.out hB1))
        go_roundw
        case rel => exact ⟨k + 1, by omega, by go_num, ⟨fun j hj => by
          rcases Nat.lt_or_ge j k with h | h
          · exact hK.out j h
          · obtain rfl : j = k := by omega
            rw [← ho.out]; exact hmb.out⟩, hB1⟩
        case measure => simp [intOf]; omega
      · rw [hmb] at hm
        replace hmb := Aside0.mk hmb
        have hI := Aside0.mk (show idxP outP l 0 = (k : Int) from by
          rw [idxP_skip outP l k 0 hk hK.out, List.drop_eq_getElem_cons hlt, idxP, if_pos (by have h := hmb.out; rw [ho.out, List.getD_eq_getElem?_getD, List.getElem?_eq_getElem hlt] at h; exact h)]
          simp)
        go_wp2_with (go_at_call 46; refine (hm.out _).mono ?_; rintro e w1 ⟨rfl, hB1⟩; replace hB1 := Aside0.mk (below_step hB.out hB1))
        go_ret
        exact ⟨congrArg (fun z => Ending.returned (Value.int .i64 z)) hI.out.symm, hB1.out⟩
    · obtain rfl : k = l.length := by omega
      have hI := Aside0.mk (show idxP outP l 0 = -1 from by
        rw [idxP_skip outP l l.length 0 hk hK.out, List.drop_length]; rfl)
      go_wp2_with fail
      go_ret
      exact ⟨congrArg (fun z => Ending.returned (Value.int .i64 z)) hI.out.symm, hB.out⟩
theorem contains_out (A : Option Addr) (c : Nat) (l : List Int) (w : World) (hr : Kd.C (Kd.int .i64) w A l.length l) (hc : l.length ≤ c) :
    Calls Tryd.prog 44 #[.slice A l.length c, .func (.func 46) #[] #[]] w fun e w' => e = .returned (.bool (l.any outP)) ∧ Below w.heap.size w w' := by
  have hM := Aside0.mk (index_out A c l w hr hc)
  rw [← idxP_any outP l]
  clear hr hc
  obtain ⟨i, hi⟩ : ∃ i, i = idxP outP l 0 := ⟨_, rfl⟩
  rw [← hi] at hM ⊢
  clear hi
  go_enter Tryd.func44, Tryd.ntmps44
  go_wp2_with (go_at_call 47; refine hM.out.mono ?_; rintro e w1 ⟨rfl, hB1⟩; replace hB1 := Aside0.mk hB1)
  go_ret
  exact ⟨rfl, hB1.out⟩

def fitsB (a : Int) (l1 l2 : List Int) : Bool := decide (0 ≤ a ∧ a ≤ 255) && (decide (l1.length ≤ 65535) && (decide (l2.length ≤ 255) && (!l1.any negP && !l2.any outP)))
def wire_fits.f (k : Nat) (a0_0 : Int) (l0_1 : List Int) (l0_2 : List Int) : Option (Bool) := some (fitsB a0_0 l0_1 l0_2)
theorem wire_fits.mono : ∀ a0 a1 a2 k, LeO (wire_fits.f k a0 a1 a2) (wire_fits.f (k + 1) a0 a1 a2) := fun _ _ _ _ => LeO.refl _
set_option maxHeartbeats 2000000 in
theorem fits_any (s0 : Int) (A1 : Option Addr) (c1 : Nat) (l1 : List Int) (A2 : Option Addr) (c2 : Nat) (l2 : List Int) (w : World) (hr1 : Kd.C (Kd.int .i64) w A1 l1.length l1) (hc1 : l1.length ≤ c1) (hr2 : Kd.C (Kd.int .i64) w A2 l2.length l2) (hc2 : l2.length ≤ c2) :
    Calls Tryd.prog 39 #[.agg #[.int .i64 s0, .slice A1 l1.length c1, .slice A2 l2.length c2]] w fun e w' => e = .returned (.bool (fitsB s0 l1 l2)) ∧ Below w.heap.size w w' := by
  have HR1 := Aside0.mk hr1
  have HC1 := Aside0.mk hc1
  have HR2 := Aside0.mk hr2
  have HC2 := Aside0.mk hc2
  clear hr1 hc1 hr2 hc2
  by_cases h1 : 0 ≤ s0 ∧ s0 ≤ 255
  · by_cases h2 : l1.length ≤ 65535
    · have c2a : decide ((l1.length : Int) ≤ 65535) = true := decide_eq_true (by omega)
      have c2b : decide (l1.length ≤ 65535) = true := decide_eq_true h2
      by_cases h3 : l2.length ≤ 255
      · have c3a : decide ((l2.length : Int) ≤ 255) = true := decide_eq_true (by omega)
        have c3b : decide (l2.length ≤ 255) = true := decide_eq_true h3
        cases h4 : l1.any negP
        · cases h5 : l2.any outP
          · have e : fitsB s0 l1 l2 = true := by unfold fitsB; rw [decide_eq_true h1, c2b, c3b, h4, h5]; rfl
            rw [e]
            replace h1 := Aside0.mk h1
            replace h4 := Aside0.mk h4
            replace h5 := Aside0.mk h5
            clear e h2 h3
            go_enter Tryd.func39, Tryd.ntmps39
            go_wp2_with (first | ((with_reducible refine gate_dst (N := 1) rfl ?_); (try (refine gate_guard (by rfl) ?_; dsimp only)); refine box_event ?hg (N := 1) ?hd (cs := #[.int .i64 s0, .slice A1 l1.length c1, .slice A2 l2.length c2]) (t := 49) ?hr ?_; (case hd => rfl); (case hg => rfl); (case hr => first | (go_simp; done) | (go_simp; rfl)); intro gb hg w1 hbox hb; have BK := Aside0.mk hbox; have HB := Aside0.mk hb; clear hb hbox hg; have hcz0 : w1.cell? ⟨gb, 0, none⟩ = some (.int .i64 s0) := (blk_cell BK.out 0).trans rfl; have hcz1 : w1.cell? ⟨gb, 1, none⟩ = some (.slice A1 l1.length c1) := (blk_cell BK.out 1).trans rfl; have hcz2 : w1.cell? ⟨gb, 2, none⟩ = some (.slice A2 l2.length c2) := (blk_cell BK.out 2).trans rfl) | (go_at_call 26; refine (within_yes _ _ _ (h1.out).1 (h1.out).2).mono ?_; rintro e w2 ⟨rfl, rfl⟩) | (go_at_call 44; (with_reducible refine (contains_neg A1 c1 l1 _ (Kd.C_below HR1.out HB.out) HC1.out).mono ?_); rintro e w3 ⟨rfl, hb⟩; rw [h4.out]; have n0_ := Aside0.mk (blk_below BK.out hb); have n1_ := Aside0.mk (below_step HB.out hb); clear BK HB hcz0 hcz1 hcz2; have BK := n0_; have HB := n1_; clear n0_ n1_ hb; have hcz0 : w3.cell? ⟨gb, 0, none⟩ = some (.int .i64 s0) := (blk_cell BK.out 0).trans rfl; have hcz1 : w3.cell? ⟨gb, 1, none⟩ = some (.slice A1 l1.length c1) := (blk_cell BK.out 1).trans rfl; have hcz2 : w3.cell? ⟨gb, 2, none⟩ = some (.slice A2 l2.length c2) := (blk_cell BK.out 2).trans rfl) | (go_at_call 44; (with_reducible refine (contains_out A2 c2 l2 _ (Kd.C_below HR2.out HB.out) HC2.out).mono ?_); rintro e w4 ⟨rfl, hb⟩; rw [h5.out]; have n0_ := Aside0.mk (blk_below BK.out hb); have n1_ := Aside0.mk (below_step HB.out hb); clear BK HB hcz0 hcz1 hcz2; have BK := n0_; have HB := n1_; clear n0_ n1_ hb; have hcz0 : w4.cell? ⟨gb, 0, none⟩ = some (.int .i64 s0) := (blk_cell BK.out 0).trans rfl; have hcz1 : w4.cell? ⟨gb, 1, none⟩ = some (.slice A1 l1.length c1) := (blk_cell BK.out 1).trans rfl; have hcz2 : w4.cell? ⟨gb, 2, none⟩ = some (.slice A2 l2.length c2) := (blk_cell BK.out 2).trans rfl))
            go_ret
            exact ⟨rfl, HB.out⟩
          · have e : fitsB s0 l1 l2 = false := by unfold fitsB; rw [decide_eq_true h1, c2b, c3b, h4, h5]; rfl
            rw [e]
            replace h1 := Aside0.mk h1
            replace h4 := Aside0.mk h4
            replace h5 := Aside0.mk h5
            clear e h2 h3
            go_enter Tryd.func39, Tryd.ntmps39
            go_wp2_with (first | ((with_reducible refine gate_dst (N := 1) rfl ?_); (try (refine gate_guard (by rfl) ?_; dsimp only)); refine box_event ?hg (N := 1) ?hd (cs := #[.int .i64 s0, .slice A1 l1.length c1, .slice A2 l2.length c2]) (t := 49) ?hr ?_; (case hd => rfl); (case hg => rfl); (case hr => first | (go_simp; done) | (go_simp; rfl)); intro gb hg w1 hbox hb; have BK := Aside0.mk hbox; have HB := Aside0.mk hb; clear hb hbox hg; have hcz0 : w1.cell? ⟨gb, 0, none⟩ = some (.int .i64 s0) := (blk_cell BK.out 0).trans rfl; have hcz1 : w1.cell? ⟨gb, 1, none⟩ = some (.slice A1 l1.length c1) := (blk_cell BK.out 1).trans rfl; have hcz2 : w1.cell? ⟨gb, 2, none⟩ = some (.slice A2 l2.length c2) := (blk_cell BK.out 2).trans rfl) | (go_at_call 26; refine (within_yes _ _ _ (h1.out).1 (h1.out).2).mono ?_; rintro e w2 ⟨rfl, rfl⟩) | (go_at_call 44; (with_reducible refine (contains_neg A1 c1 l1 _ (Kd.C_below HR1.out HB.out) HC1.out).mono ?_); rintro e w3 ⟨rfl, hb⟩; rw [h4.out]; have n0_ := Aside0.mk (blk_below BK.out hb); have n1_ := Aside0.mk (below_step HB.out hb); clear BK HB hcz0 hcz1 hcz2; have BK := n0_; have HB := n1_; clear n0_ n1_ hb; have hcz0 : w3.cell? ⟨gb, 0, none⟩ = some (.int .i64 s0) := (blk_cell BK.out 0).trans rfl; have hcz1 : w3.cell? ⟨gb, 1, none⟩ = some (.slice A1 l1.length c1) := (blk_cell BK.out 1).trans rfl; have hcz2 : w3.cell? ⟨gb, 2, none⟩ = some (.slice A2 l2.length c2) := (blk_cell BK.out 2).trans rfl) | (go_at_call 44; (with_reducible refine (contains_out A2 c2 l2 _ (Kd.C_below HR2.out HB.out) HC2.out).mono ?_); rintro e w4 ⟨rfl, hb⟩; rw [h5.out]; have n0_ := Aside0.mk (blk_below BK.out hb); have n1_ := Aside0.mk (below_step HB.out hb); clear BK HB hcz0 hcz1 hcz2; have BK := n0_; have HB := n1_; clear n0_ n1_ hb; have hcz0 : w4.cell? ⟨gb, 0, none⟩ = some (.int .i64 s0) := (blk_cell BK.out 0).trans rfl; have hcz1 : w4.cell? ⟨gb, 1, none⟩ = some (.slice A1 l1.length c1) := (blk_cell BK.out 1).trans rfl; have hcz2 : w4.cell? ⟨gb, 2, none⟩ = some (.slice A2 l2.length c2) := (blk_cell BK.out 2).trans rfl))
            go_ret
            exact ⟨rfl, HB.out⟩
        · have e : fitsB s0 l1 l2 = false := by unfold fitsB; rw [decide_eq_true h1, c2b, c3b, h4]; rfl
          rw [e]
          replace h1 := Aside0.mk h1
          replace h4 := Aside0.mk h4
          clear e h2 h3
          go_enter Tryd.func39, Tryd.ntmps39
          go_wp2_with (first | ((with_reducible refine gate_dst (N := 1) rfl ?_); (try (refine gate_guard (by rfl) ?_; dsimp only)); refine box_event ?hg (N := 1) ?hd (cs := #[.int .i64 s0, .slice A1 l1.length c1, .slice A2 l2.length c2]) (t := 49) ?hr ?_; (case hd => rfl); (case hg => rfl); (case hr => first | (go_simp; done) | (go_simp; rfl)); intro gb hg w1 hbox hb; have BK := Aside0.mk hbox; have HB := Aside0.mk hb; clear hb hbox hg; have hcz0 : w1.cell? ⟨gb, 0, none⟩ = some (.int .i64 s0) := (blk_cell BK.out 0).trans rfl; have hcz1 : w1.cell? ⟨gb, 1, none⟩ = some (.slice A1 l1.length c1) := (blk_cell BK.out 1).trans rfl; have hcz2 : w1.cell? ⟨gb, 2, none⟩ = some (.slice A2 l2.length c2) := (blk_cell BK.out 2).trans rfl) | (go_at_call 26; refine (within_yes _ _ _ (h1.out).1 (h1.out).2).mono ?_; rintro e w2 ⟨rfl, rfl⟩) | (go_at_call 44; (with_reducible refine (contains_neg A1 c1 l1 _ (Kd.C_below HR1.out HB.out) HC1.out).mono ?_); rintro e w3 ⟨rfl, hb⟩; rw [h4.out]; have n0_ := Aside0.mk (blk_below BK.out hb); have n1_ := Aside0.mk (below_step HB.out hb); clear BK HB hcz0 hcz1 hcz2; have BK := n0_; have HB := n1_; clear n0_ n1_ hb; have hcz0 : w3.cell? ⟨gb, 0, none⟩ = some (.int .i64 s0) := (blk_cell BK.out 0).trans rfl; have hcz1 : w3.cell? ⟨gb, 1, none⟩ = some (.slice A1 l1.length c1) := (blk_cell BK.out 1).trans rfl; have hcz2 : w3.cell? ⟨gb, 2, none⟩ = some (.slice A2 l2.length c2) := (blk_cell BK.out 2).trans rfl))
          go_ret
          exact ⟨rfl, HB.out⟩
      · have c3a : decide ((l2.length : Int) ≤ 255) = false := decide_eq_false (by omega)
        have c3b : decide (l2.length ≤ 255) = false := decide_eq_false h3
        have e : fitsB s0 l1 l2 = false := by unfold fitsB; rw [decide_eq_true h1, c2b, c3b]; rfl
        rw [e]
        replace h1 := Aside0.mk h1
        clear e h2 h3
        go_enter Tryd.func39, Tryd.ntmps39
        go_wp2_with (first | ((with_reducible refine gate_dst (N := 1) rfl ?_); (try (refine gate_guard (by rfl) ?_; dsimp only)); refine box_event ?hg (N := 1) ?hd (cs := #[.int .i64 s0, .slice A1 l1.length c1, .slice A2 l2.length c2]) (t := 49) ?hr ?_; (case hd => rfl); (case hg => rfl); (case hr => first | (go_simp; done) | (go_simp; rfl)); intro gb hg w1 hbox hb; have BK := Aside0.mk hbox; have HB := Aside0.mk hb; clear hb hbox hg; have hcz0 : w1.cell? ⟨gb, 0, none⟩ = some (.int .i64 s0) := (blk_cell BK.out 0).trans rfl; have hcz1 : w1.cell? ⟨gb, 1, none⟩ = some (.slice A1 l1.length c1) := (blk_cell BK.out 1).trans rfl; have hcz2 : w1.cell? ⟨gb, 2, none⟩ = some (.slice A2 l2.length c2) := (blk_cell BK.out 2).trans rfl) | (go_at_call 26; refine (within_yes _ _ _ (h1.out).1 (h1.out).2).mono ?_; rintro e w2 ⟨rfl, rfl⟩))
        go_ret
        exact ⟨rfl, HB.out⟩
    · have c2a : decide ((l1.length : Int) ≤ 65535) = false := decide_eq_false (by omega)
      have c2b : decide (l1.length ≤ 65535) = false := decide_eq_false h2
      have e : fitsB s0 l1 l2 = false := by unfold fitsB; rw [decide_eq_true h1, c2b]; rfl
      rw [e]
      replace h1 := Aside0.mk h1
      clear e h2
      go_enter Tryd.func39, Tryd.ntmps39
      go_wp2_with (first | ((with_reducible refine gate_dst (N := 1) rfl ?_); (try (refine gate_guard (by rfl) ?_; dsimp only)); refine box_event ?hg (N := 1) ?hd (cs := #[.int .i64 s0, .slice A1 l1.length c1, .slice A2 l2.length c2]) (t := 49) ?hr ?_; (case hd => rfl); (case hg => rfl); (case hr => first | (go_simp; done) | (go_simp; rfl)); intro gb hg w1 hbox hb; have BK := Aside0.mk hbox; have HB := Aside0.mk hb; clear hb hbox hg; have hcz0 : w1.cell? ⟨gb, 0, none⟩ = some (.int .i64 s0) := (blk_cell BK.out 0).trans rfl; have hcz1 : w1.cell? ⟨gb, 1, none⟩ = some (.slice A1 l1.length c1) := (blk_cell BK.out 1).trans rfl; have hcz2 : w1.cell? ⟨gb, 2, none⟩ = some (.slice A2 l2.length c2) := (blk_cell BK.out 2).trans rfl) | (go_at_call 26; refine (within_yes _ _ _ (h1.out).1 (h1.out).2).mono ?_; rintro e w2 ⟨rfl, rfl⟩))
      go_ret
      exact ⟨rfl, HB.out⟩
  · have e : fitsB s0 l1 l2 = false := by unfold fitsB; rw [decide_eq_false h1]; rfl
    rw [e]
    replace h1 := Aside0.mk h1
    clear e
    go_enter Tryd.func39, Tryd.ntmps39
    go_wp2_with (first | ((with_reducible refine gate_dst (N := 1) rfl ?_); (try (refine gate_guard (by rfl) ?_; dsimp only)); refine box_event ?hg (N := 1) ?hd (cs := #[.int .i64 s0, .slice A1 l1.length c1, .slice A2 l2.length c2]) (t := 49) ?hr ?_; (case hd => rfl); (case hg => rfl); (case hr => first | (go_simp; done) | (go_simp; rfl)); intro gb hg w1 hbox hb; have BK := Aside0.mk hbox; have HB := Aside0.mk hb; clear hb hbox hg; have hcz0 : w1.cell? ⟨gb, 0, none⟩ = some (.int .i64 s0) := (blk_cell BK.out 0).trans rfl; have hcz1 : w1.cell? ⟨gb, 1, none⟩ = some (.slice A1 l1.length c1) := (blk_cell BK.out 1).trans rfl; have hcz2 : w1.cell? ⟨gb, 2, none⟩ = some (.slice A2 l2.length c2) := (blk_cell BK.out 2).trans rfl) | (go_at_call 26; refine (within_no _ _ _ h1.out).mono ?_; rintro e w2 ⟨rfl, rfl⟩))
    go_ret
    exact ⟨rfl, HB.out⟩
theorem wire_fits.calls (k : Nat) (a0_0 : Int) (A0_1 : Option Addr) (c0_1 : Nat) (l0_1 : List Int) (A0_2 : Option Addr) (c0_2 : Nat) (l0_2 : List Int) (r : Bool) (w : World) (hr0_1 : Kd.C (Kd.int .i64) w A0_1 l0_1.length l0_1) (hc0_1 : l0_1.length ≤ c0_1) (hr0_2 : Kd.C (Kd.int .i64) w A0_2 l0_2.length l0_2) (hc0_2 : l0_2.length ≤ c0_2) (h : wire_fits.f k a0_0 l0_1 l0_2 = some r) :
    Calls Tryd.prog 39 #[.agg #[.int .i64 a0_0, .slice A0_1 l0_1.length c0_1, .slice A0_2 l0_2.length c0_2]] w fun e w' => e = .returned (.bool r) ∧ Below w.heap.size w w' := by
  obtain rfl := Option.some.inj h
  exact fits_any a0_0 A0_1 c0_1 l0_1 A0_2 c0_2 l0_2 w hr0_1 hc0_1 hr0_2 hc0_2
end Go.Proofs.YteapmebmgaggcaaDoor.PW

namespace Go.Proofs.YteapmebmgaggcaaDoor.PW
open Go.RowKit Go.Proofs.YteapmebmgaggcaaDoorW.PrintWords Go.Proofs.YteapmebmgaggcaaDoorW.PrintLast Go.Proofs.YteapmebmgaggcaaDoorW.PrintMore
attribute [local go_sem] max2_int min2_int max_two min_two max_three min_three max_four min_four   -- for this text's walks alone
set_option linter.unusedVariables false
set_option linter.unusedSimpArgs false

attribute [local go_sem high] eqA23 eqA30
/-! ### wire_EncodeReplies: function 23 -/
mutual
def wire_EncodeReplies.l0 : Nat → List Int → List (S49) → Int → Int → Option (List Int × Int)
 | 0, _, _, _, _ => none
 | k + 1, x4, x9, x10, x11 => if x11 < x10 then (if 0 ≤ x11 then (if x11 < (x9.length : Int) then ((wire_fits.f k ((rd_T49 x9 x11).f0) ((rd_T49 x9 x11).f1) ((rd_T49 x9 x11).f2)).bind fun t255 => (if t255 = true then (if x4.length < 140737488355328 then ((octet_Put.f (x4 ++ [((rd_T49 x9 x11).f0) % 256]) 2 (IntKind.u64.wrap ((((rd_T49 x9 x11).f1).length : Int)))).bind fun t259 => (wire_EncodeReplies.l1 k t259 x9 x10 x11 ((rd_T49 x9 x11).f1) (((rd_T49 x9 x11).f1).length : Int) 0 ((rd_T49 x9 x11).f0) ((rd_T49 x9 x11).f1) ((rd_T49 x9 x11).f2))) else (none)) else (some (([] : List Int), 1)))) else (none)) else (none)) else (some (x4, 0))
def wire_EncodeReplies.l1 : Nat → List Int → List (S49) → Int → Int → List Int → Int → Int → Int → List Int → List Int → Option (List Int × Int)
 | 0, _, _, _, _, _, _, _, _, _, _ => none
 | k + 1, x4, x9, x10, x11, x30, x31, x32, x255000, x255001, x255002 => if x32 < x31 then (if 0 ≤ x32 then (if x32 < (x30.length : Int) then ((octet_Put.f x4 8 (IntKind.u64.wrap (rd x30 x32))).bind fun t263 => (wire_EncodeReplies.l1 k t263 x9 x10 x11 x30 x31 (wrap64 (x32 + 1)) x255000 x255001 x255002)) else (none)) else (none)) else (if x4.length < 140737488355328 then ((wire_laid.f k (x4 ++ [((x255002.length : Int)) % 256]) x255002).bind fun t269 => (wire_EncodeReplies.l0 k t269 x9 x10 (wrap64 (x11 + 1)))) else (none))
end
def wire_EncodeReplies.f (k : Nat) (l0 : List (S49)) : Option (List Int × Int) := wire_EncodeReplies.l0 k ([] : List Int) l0 (l0.length : Int) 0
theorem wire_EncodeReplies.mono_l : ∀ k, (∀ y0 y1 y2 y3, LeO (wire_EncodeReplies.l0 k y0 y1 y2 y3) (wire_EncodeReplies.l0 (k + 1) y0 y1 y2 y3)) ∧ (∀ y0 y1 y2 y3 y4 y5 y6 y7 y8 y9, LeO (wire_EncodeReplies.l1 k y0 y1 y2 y3 y4 y5 y6 y7 y8 y9) (wire_EncodeReplies.l1 (k + 1) y0 y1 y2 y3 y4 y5 y6 y7 y8 y9))
 | 0 => ⟨fun _ _ _ _ r h => by simp [wire_EncodeReplies.l0] at h, fun _ _ _ _ _ _ _ _ _ _ r h => by simp [wire_EncodeReplies.l1] at h⟩
 | k + 1 => by
  obtain ⟨ih0, ih1⟩ := wire_EncodeReplies.mono_l k
  refine ⟨?_, ?_⟩
  ·
   intro y0 y1 y2 y3
   unfold wire_EncodeReplies.l0
   repeat' first
   | (with_reducible exact ih0 _ _ _ _)
   | (with_reducible exact ih1 _ _ _ _ _ _ _ _ _ _)
   | (with_reducible exact wire_fits.mono _ _ _ _)
   | (with_reducible exact wire_laid.mono _ _ _)
   | (with_reducible exact LeO.refl _)
   | (with_reducible exact LeO.none _)
   | (with_reducible refine LeO.ite ?_ ?_)
   | (with_reducible refine LeO.bind ?_ (fun _ => ?_))
   | exact ih0 _ _ _ _
   | exact ih1 _ _ _ _ _ _ _ _ _ _
   | exact wire_fits.mono _ _ _ _
   | exact wire_laid.mono _ _ _
   | exact LeO.none _
   | refine LeO.ite ?_ ?_
   | refine LeO.bind ?_ (fun _ => ?_)
  ·
   intro y0 y1 y2 y3 y4 y5 y6 y7 y8 y9
   unfold wire_EncodeReplies.l1
   repeat' first
   | (with_reducible exact ih0 _ _ _ _)
   | (with_reducible exact ih1 _ _ _ _ _ _ _ _ _ _)
   | (with_reducible exact wire_fits.mono _ _ _ _)
   | (with_reducible exact wire_laid.mono _ _ _)
   | (with_reducible exact LeO.refl _)
   | (with_reducible exact LeO.none _)
   | (with_reducible refine LeO.ite ?_ ?_)
   | (with_reducible refine LeO.bind ?_ (fun _ => ?_))
   | exact ih0 _ _ _ _
   | exact ih1 _ _ _ _ _ _ _ _ _ _
   | exact wire_fits.mono _ _ _ _
   | exact wire_laid.mono _ _ _
   | exact LeO.none _
   | refine LeO.ite ?_ ?_
   | refine LeO.bind ?_ (fun _ => ?_)
theorem wire_EncodeReplies.mono : ∀ a0 k, LeO (wire_EncodeReplies.f k a0) (wire_EncodeReplies.f (k + 1) a0) := by
 intro a0 k
 obtain ⟨ih0, ih1⟩ := wire_EncodeReplies.mono_l k
 unfold wire_EncodeReplies.f
 repeat' first
   | (with_reducible exact ih0 _ _ _ _)
   | (with_reducible exact ih1 _ _ _ _ _ _ _ _ _ _)
   | (with_reducible exact wire_fits.mono _ _ _ _)
   | (with_reducible exact wire_laid.mono _ _ _)
   | (with_reducible exact LeO.refl _)
   | (with_reducible exact LeO.none _)
   | (with_reducible refine LeO.ite ?_ ?_)
   | (with_reducible refine LeO.bind ?_ (fun _ => ?_))
   | exact ih0 _ _ _ _
   | exact ih1 _ _ _ _ _ _ _ _ _ _
   | exact wire_fits.mono _ _ _ _
   | exact wire_laid.mono _ _ _
   | exact LeO.none _
   | refine LeO.ite ?_ ?_
   | refine LeO.bind ?_ (fun _ => ?_)
def wire_EncodeReplies.T7 : Bool × List (List Nat × List Nat) := (true, [([], []), ([], []), ([1], [1]), ([2], [2]), ([3], [3]), ([0, 4], [0, 4]), ([], []), ([6], [6]), ([7], [7]), ([8], [8]), ([5, 9, 5], [5, 9]), ([10, 10, 0, 1, 2, 3, 4, 5, 6, 7, 8, 9, 10], [0, 10])])
def wire_EncodeReplies.B7 : List Nat := [0, 0, 2, 6, 14, 31, 0, 64, 192, 448, 1023, 2047]
theorem wire_EncodeReplies.tab7 : rtab .any (opsOf Tryd.f23 7) = wire_EncodeReplies.T7 := by kernel_rfl
theorem wire_EncodeReplies.bits7 : waitsOk wire_EncodeReplies.T7.2 wire_EncodeReplies.B7 = true := by kernel_rfl
def wire_EncodeReplies.T13 : Bool × List (List Nat × List Nat) := (true, [([], []), ([], []), ([1], [1]), ([2], [2]), ([3], [3]), ([4], [4]), ([0, 5], [0, 5]), ([], []), ([7], [7]), ([6, 8, 6], [6, 8]), ([9, 9, 0, 1, 2, 3, 4, 5, 6, 7, 8, 9], [0, 9])])
def wire_EncodeReplies.B13 : List Nat := [0, 0, 2, 6, 14, 30, 63, 0, 128, 511, 1023]
theorem wire_EncodeReplies.tab13 : rtab .any (opsOf Tryd.f23 13) = wire_EncodeReplies.T13 := by kernel_rfl
theorem wire_EncodeReplies.bits13 : waitsOk wire_EncodeReplies.T13.2 wire_EncodeReplies.B13 = true := by kernel_rfl
set_option maxHeartbeats 8000000 in
set_option maxRecDepth 100000 in
theorem wire_EncodeReplies.calls (k : Nat) (A0 : Option Addr) (c0 : Nat) (l0 : List (S49)) (r1 : List Int) (r2 : Int) (w : World) (hr0 : Kd.C k49 w A0 l0.length l0) (hc0 : l0.length ≤ c0) (h : wire_EncodeReplies.f k l0 = some (r1, r2)) :
  Calls Tryd.prog 23 #[.slice A0 l0.length c0] w fun e w' => ∃ v0_ : Value, e = .returned (.tuple #[v0_, .int .i64 r2]) ∧ Kd.R (Kd.int .u8) 5 w' w.heap.size (fun _ => True) v0_ r1 ∧ Below w.heap.size w w' := by
 have hu49 := Tryd.underlying49
 have HR0 := Aside0.mk hr0
 have HC0 := Aside0.mk hc0
 clear hr0 hc0
 have HB := Aside0.mk (Below.refl w.heap.size w)
 have H : (wire_EncodeReplies.l0 k ([] : List Int) l0 (l0.length : Int) 0) = some (r1, r2) := h
 clear h
 have H' := Aside0.mk H
 clear H
 go_enter Tryd.func23, Tryd.ntmps23
 go_wp2
 go_loopg [4, 11] k (fun kq v4 v11 w' => ∃ (x4_1 : List Int) (x11_1 : Int), v11 = .int .i64 x11_1 ∧ Aside0 (wire_EncodeReplies.l0 kq x4_1 l0 (l0.length : Int) x11_1 = some (r1, r2)) ∧ Aside0 (kq ≤ k) ∧ Aside0 (Kd.R (Kd.int .u8) 5 w' w.heap.size (fun _ => True) v4 x4_1) ∧ Aside0 (Below w.heap.size w w'))
 case atStart => exact ⟨(([] : List Int)), (0), (by first | rfl | (simp; done) | (simp [*]; done)), H', ⟨Nat.le_refl _⟩, ⟨by first | exact Kd.R_nil _ _ _ _ _ | exact Kd.N_nil _ _ _ _ _ | exact Kd.V_nil _ _ _ _ _ | exact Kd.Q_nil _ _ _ _ _ | exact Kd.S_nil _ _ _ _ _⟩, ⟨by repeat (first | (with_reducible first | exact HB.out | apply below_alloc | apply pw_below_drewN | apply below_drew1) | exact HB.out)⟩⟩
 case round =>
  clear H'
  obtain ⟨x4_1, x11_1, rfl, HA, HK1, HO_4, HB⟩ := hrel
  cases gk with
  | zero => exact absurd HA.out (by simp [wire_EncodeReplies.l0])
  | succ k1 =>
   have H := HA.out
   clear HA
   simp only [wire_EncodeReplies.l0] at H
   by_cases c2 : x11_1 < (l0.length : Int)
   ·
    rw [if_pos c2] at H
    have c2b0 : decide (x11_1 < (l0.length : Int)) = true := decide_eq_true c2
    clear c2
    by_cases c3 : 0 ≤ x11_1
    ·
     rw [if_pos c3] at H
     have c3b0 : decide (0 ≤ x11_1) = true := decide_eq_true c3
     clear c3
     by_cases c4 : x11_1 < (l0.length : Int)
     ·
      rw [if_pos c4] at H
      have c4b0 : decide (x11_1 < (l0.length : Int)) = true := decide_eq_true c4
      clear c4
      replace H := Option.bind_eq_some_iff.mp H
      obtain ⟨t255, A50, H⟩ := H
      replace H : (if t255 = true then (if x4_1.length < 140737488355328 then ((octet_Put.f (x4_1 ++ [((rd_T49 l0 x11_1).f0) % 256]) 2 (IntKind.u64.wrap ((((rd_T49 l0 x11_1).f1).length : Int)))).bind fun t259 => (wire_EncodeReplies.l1 k1 t259 l0 (l0.length : Int) x11_1 ((rd_T49 l0 x11_1).f1) (((rd_T49 l0 x11_1).f1).length : Int) 0 ((rd_T49 l0 x11_1).f0) ((rd_T49 l0 x11_1).f1) ((rd_T49 l0 x11_1).f2))) else (none)) else (some (([] : List Int), 1))) = some (r1, r2) := H
      have A5 := Aside0.mk A50
      clear A50
      by_cases c6 : t255 = true
      ·
       subst c6
       have H1 : (if x4_1.length < 140737488355328 then ((octet_Put.f (x4_1 ++ [((rd_T49 l0 x11_1).f0) % 256]) 2 (IntKind.u64.wrap ((((rd_T49 l0 x11_1).f1).length : Int)))).bind fun t259 => (wire_EncodeReplies.l1 k1 t259 l0 (l0.length : Int) x11_1 ((rd_T49 l0 x11_1).f1) (((rd_T49 l0 x11_1).f1).length : Int) 0 ((rd_T49 l0 x11_1).f0) ((rd_T49 l0 x11_1).f1) ((rd_T49 l0 x11_1).f2))) else (none)) = some (r1, r2) := by rw [if_pos rfl] at H; exact H
       clear H
       have H := H1
       clear H1
       by_cases c7 : x4_1.length < 140737488355328
       ·
        rw [if_pos c7] at H
        have LMc7 := Aside0.mk c7
        clear c7
        obtain ⟨y256, hy256⟩ : ∃ y_ : List Int, y_ = (x4_1 ++ [((rd_T49 l0 x11_1).f0) % 256]) := ⟨_, rfl⟩
        replace H : ((octet_Put.f y256 2 (IntKind.u64.wrap ((((rd_T49 l0 x11_1).f1).length : Int)))).bind fun t259 => (wire_EncodeReplies.l1 k1 t259 l0 (l0.length : Int) x11_1 ((rd_T49 l0 x11_1).f1) (((rd_T49 l0 x11_1).f1).length : Int) 0 ((rd_T49 l0 x11_1).f0) ((rd_T49 l0 x11_1).f1) ((rd_T49 l0 x11_1).f2))) = some (r1, r2) := by first | (rw [hy256]; with_reducible exact H) | (have H2_ := (Option.bind_some _ _).symm.trans H; rw [hy256]; with_reducible exact H2_) | (have H2_ := (Option.bind_some _ _).symm.trans H; with_reducible exact H2_) | with_reducible exact H | (rw [hy256]; exact H) | exact H
        have Ny256 := Aside0.mk hy256
        clear hy256
        replace H := Option.bind_eq_some_iff.mp H
        obtain ⟨t259, A80, H⟩ := H
        replace H : (wire_EncodeReplies.l1 k1 t259 l0 (l0.length : Int) x11_1 ((rd_T49 l0 x11_1).f1) (((rd_T49 l0 x11_1).f1).length : Int) 0 ((rd_T49 l0 x11_1).f0) ((rd_T49 l0 x11_1).f1) ((rd_T49 l0 x11_1).f2)) = some (r1, r2) := H
        have A8 := Aside0.mk A80
        clear A80
        have H' := Aside0.mk H
        clear H
        have p253 : 0 ≤ (x11_1 : Int) := of_decide_eq_true (by first | (with_reducible assumption) | assumption)
        have q253 : x11_1 < (l0.length : Int) := of_decide_eq_true (by first | (with_reducible assumption) | assumption)
        obtain ⟨ad253, A253_1, c253_1, A253_2, c253_2, e253, hx253_0, hx253_1, hx253_2, hl253_1, hi253_1, hl253_2, hi253_2⟩ := at_T49 HR0.out x11_1 p253 q253
        cases e253
        replace hx253_0 := (HB.out.cell (World.block_lt_of_cell? w _ hx253_0)).trans hx253_0
        replace hx253_1 := (HB.out.cell (World.block_lt_of_cell? w _ hx253_1)).trans hx253_1
        replace hx253_2 := (HB.out.cell (World.block_lt_of_cell? w _ hx253_2)).trans hx253_2
        have HR253_1 := Aside0.mk hi253_1
        have HC253_1 := Aside0.mk hl253_1
        clear hi253_1 hl253_1
        have HR253_2 := Aside0.mk hi253_2
        have HC253_2 := Aside0.mk hl253_2
        clear hi253_2 hl253_2
        replace p253 := eq_true p253
        replace q253 := eq_true q253
        try go_wp2_with (first | ((with_reducible refine gate_dst (N := 6) rfl ?_); refine box_event ?hg (N := 6) ?hd (cs := #[.int .i64 0, .slice none 0 0, .slice none 0 0]) (t := 49) ?hr ?_; (case hd => rfl); (case hg => rfl); (case hr => first | (go_simp; done) | (go_simp; rfl)); intro gb254 hg w9 hbox hb; have n0_ := Aside0.mk (Kd.R_below (by (with_reducible repeat (first | apply Kd.R_alloc | apply Kd.R_drewN | apply Kd.R_drew)); exact HO_4.out) hb); have n1_ := Aside0.mk (below_step (by repeat (first | (with_reducible first | exact HB.out | apply below_alloc | apply pw_below_drewN | apply below_drew1) | exact HB.out)) hb); have n2_ := Aside0.mk (hbox); have n3_ := Aside0.mk ((by rw [hg]; exact (below_size (by repeat (first | (with_reducible first | exact HB.out | apply below_alloc | apply pw_below_drewN | apply below_drew1) | exact HB.out))) : w.heap.size ≤ gb254)); have n4_ := Aside0.mk ((by rw [hg]; exact (below_size (by repeat (first | (with_reducible first | exact HB.out | apply below_alloc | apply pw_below_drewN | apply below_drew1) | exact HB.out))) : w.heap.size ≤ gb254)); clear HO_4; clear HB; have HO_4 := n0_; have HB := n1_; have BK254 := n2_; have GW254 := n3_; have GE254 := n4_; clear n0_ n1_ n2_ n3_ n4_; clear hb hbox hg; have hcz10_0 : w9.cell? ⟨gb254, 0, none⟩ = some (.int .i64 0) := (blk_cell BK254.out 0).trans rfl; have hcz10_1 : w9.cell? ⟨gb254, 1, none⟩ = some (.slice none 0 0) := (blk_cell BK254.out 1).trans rfl; have hcz10_2 : w9.cell? ⟨gb254, 2, none⟩ = some (.slice none 0 0) := (blk_cell BK254.out 2).trans rfl; have hfz10_0 := blk_frozen BK254.out 0; have hfz10_1 := blk_frozen BK254.out 1; have hfz10_2 := blk_frozen BK254.out 2) | ((with_reducible refine gate_callee (f := 39) rfl ?_); refine goesL_ (some 16) rfl rfl Tryd.func39 (by kernel_rfl) rfl #[.agg #[.int .i64 ((rd_T49 l0 x11_1).f0), .slice A253_1 ((rd_T49 l0 x11_1).f1).length c253_1, .slice A253_2 ((rd_T49 l0 x11_1).f2).length c253_2]] rfl (by (try simp only [List.map_toArray, List.map_cons, List.map_nil]); first | done | rfl | (simp only [List.length_drop, List.length_take]; rfl)) ?_; (with_reducible refine (wire_fits.calls k1 ((rd_T49 l0 x11_1).f0) _ _ ((rd_T49 l0 x11_1).f1) _ _ ((rd_T49 l0 x11_1).f2) true _ ?side1 ?side2 ?side3 ?side4 A5.out).mono ?_); (case side1 => exact Kd.C_below HR253_1.out (by repeat (first | (with_reducible first | exact HB.out | apply below_alloc | apply pw_below_drewN | apply below_drew1 | refine below_set ?_ GE254.out) | exact HB.out))); (case side2 => exact HC253_1.out); (case side3 => exact Kd.C_below HR253_2.out (by repeat (first | (with_reducible first | exact HB.out | apply below_alloc | apply pw_below_drewN | apply below_drew1 | refine below_set ?_ GE254.out) | exact HB.out))); (case side4 => exact HC253_2.out); rintro e w11 ⟨rfl, hb⟩; refine ⟨_, rfl, ?_⟩; have n0_ := Aside0.mk (Kd.R_below (by (with_reducible repeat (first | apply Kd.R_alloc | apply Kd.R_drewN | apply Kd.R_drew)); exact (Kd.R_mono (Kd.R_far (p := ⟨gb254, 2, none⟩) (Kd.R_far (p := ⟨gb254, 1, none⟩) (Kd.R_far (p := ⟨gb254, 0, none⟩) (Kd.R_types HO_4.out BK254.out (by decide)) (fun _ hk => hk.2) (.int .i64 ((rd_T49 l0 x11_1).f0))) (fun _ hk => hk.2) (.slice A253_1 ((rd_T49 l0 x11_1).f1).length c253_1)) (fun _ hk => hk.2) (.slice A253_2 ((rd_T49 l0 x11_1).f2).length c253_2)) (fun _ h_ => h_.1))) hb); have n1_ := Aside0.mk (blk_below (g := gb254) (o := .cells #[.int .i64 ((rd_T49 l0 x11_1).f0), .slice A253_1 ((rd_T49 l0 x11_1).f1).length c253_1, .slice A253_2 ((rd_T49 l0 x11_1).f2).length c253_2] 49 (0, 0)) (by (with_reducible repeat (first | refine blk_drewN ?_ _ | refine blk_drew ?_ | refine blk_alloc ?_ _)); refine blk_put (cs := #[.int .i64 ((rd_T49 l0 x11_1).f0), .slice A253_1 ((rd_T49 l0 x11_1).f1).length c253_1, .slice none 0 0]) ?_ 2 _ rfl; (with_reducible repeat (first | refine blk_drewN ?_ _ | refine blk_drew ?_ | refine blk_alloc ?_ _)); refine blk_put (cs := #[.int .i64 ((rd_T49 l0 x11_1).f0), .slice none 0 0, .slice none 0 0]) ?_ 1 _ rfl; (with_reducible repeat (first | refine blk_drewN ?_ _ | refine blk_drew ?_ | refine blk_alloc ?_ _)); refine blk_put (cs := #[.int .i64 0, .slice none 0 0, .slice none 0 0]) ?_ 0 _ rfl; (with_reducible repeat (first | refine blk_drewN ?_ _ | refine blk_drew ?_ | refine blk_alloc ?_ _)); exact BK254.out) hb); have n2_ := Aside0.mk (below_step (by repeat (first | (with_reducible first | exact HB.out | apply below_alloc | apply pw_below_drewN | apply below_drew1 | refine below_set ?_ GE254.out) | exact HB.out)) hb); clear HO_4; clear BK254; clear HB; have HO_4 := n0_; have BK254 := n1_; have HB := n2_; clear n0_ n1_ n2_; (try clear hb); (try clear hb2); (try clear hk); (try clear hi)))
        have n0_ := Aside0.mk (Kd.R_drew HO_4.out)
        have n1_ := Aside0.mk (blk_drew BK254.out)
        have n2_ := Aside0.mk (below_drew1 HB.out)
        clear HO_4
        clear BK254
        clear HB
        have HO_4 := n0_
        have BK254 := n1_
        have HB := n2_
        clear n0_ n1_ n2_
        refine start_ (n := 12) (S := fun w' => w'.cell? ⟨gb254, 0, none⟩ = some (.int .i64 ((rd_T49 l0 x11_1).f0)) ∧ w'.cell? ⟨gb254, 1, none⟩ = some (.slice A253_1 ((rd_T49 l0 x11_1).f1).length c253_1) ∧ w'.cell? ⟨gb254, 2, none⟩ = some (.slice A253_2 ((rd_T49 l0 x11_1).f2).length c253_2)) (ds := []) #[false, false, false, false, false, false, false, false, false, false, false, false] (by kernel_rfl) rfl rfl ⟨(blk_cell BK254.out 0).trans rfl, (blk_cell BK254.out 1).trans rfl, (blk_cell BK254.out 2).trans rfl⟩ (fun hHeld => ?_); refine with_tabW wire_EncodeReplies.tab7 wire_EncodeReplies.bits7 (fun HT_ HW_ => ?_)
        generalize w11.drew = w12 at HO_4 BK254 HB hHeld ⊢
        refine pure_ (i := 0) (N := some 18) (v := ?_) (a' := ?_) #[true, false, false, false, false, false, false, false, false, false, false, false] rfl rfl (any_of HT_.out (by kernel_rfl)) (fun _ _ _ h => h) (Or.inl ⟨by rfl, ?_⟩) ?_ ?_
        rotate_left
        ·
         intro w'
         go_simp
         with_reducible rfl
        rotate_left
        ·
         simp only [Act.put, List.setIfInBounds_toArray, List.set_cons_zero, List.set_cons_succ, i64_w, i32_w]
         rfl
        refine pure_ (i := 1) (N := some 19) (v := ?_) (a' := ?_) #[true, true, false, false, false, false, false, false, false, false, false, false] rfl rfl (any_of HT_.out (by kernel_rfl)) (fun _ _ _ h => h) (Or.inl ⟨by rfl, ?_⟩) ?_ ?_
        rotate_left
        ·
         intro w'
         go_simp
         with_reducible rfl
        rotate_left
        ·
         simp only [Act.put, List.setIfInBounds_toArray, List.set_cons_zero, List.set_cons_succ, i64_w, i32_w]
         rfl
        refine pure_ (i := 6) (N := some 24) (v := ?_) (a' := ?_) #[true, true, false, false, false, false, true, false, false, false, false, false] rfl rfl (any_of HT_.out (by kernel_rfl)) (fun _ _ _ h => h) (Or.inl ⟨by rfl, ?_⟩) ?_ ?_
        rotate_left
        ·
         intro w'
         go_simp
         with_reducible rfl
        rotate_left
        ·
         simp only [Act.put, List.setIfInBounds_toArray, List.set_cons_zero, List.set_cons_succ, i64_w, i32_w]
         rfl
        refine take_ (i := 2) (N := some 20) (v := ?_) (a' := ?_) #[true, true, true, false, false, false, true, false, false, false, false, false] rfl rfl (take_ofW HT_.out HW_.out (by kernel_rfl)) (fun _ _ _ h => h) (Or.inl ⟨by rfl, ?_⟩) hHeld ?_ ?_
        rotate_left
        ·
         rintro w' ⟨s0, s1, s2⟩
         go_simp
         with_reducible rfl
        rotate_left
        ·
         simp only [Act.put, List.setIfInBounds_toArray, List.set_cons_zero, List.set_cons_succ, i64_w, i32_w]
         rfl
        refine pure_ (i := 3) (N := some 21) (v := ?_) (a' := ?_) #[true, true, true, true, false, false, true, false, false, false, false, false] rfl rfl (any_of HT_.out (by kernel_rfl)) (fun _ _ _ h => h) (Or.inl ⟨by rfl, ?_⟩) ?_ ?_
        rotate_left
        ·
         intro w'
         go_simp
         with_reducible rfl
        rotate_left
        ·
         simp only [Act.put, List.setIfInBounds_toArray, List.set_cons_zero, List.set_cons_succ, i64_w, i32_w]
         rfl
        refine take_ (i := 7) (N := some 25) (v := ?_) (a' := ?_) #[true, true, true, true, false, false, true, true, false, false, false, false] rfl rfl (take_ofW HT_.out HW_.out (by kernel_rfl)) (fun _ _ _ h => h) (Or.inl ⟨by rfl, ?_⟩) hHeld ?_ ?_
        rotate_left
        ·
         rintro w' ⟨s0, s1, s2⟩
         go_simp
         with_reducible rfl
        rotate_left
        ·
         simp only [Act.put, List.setIfInBounds_toArray, List.set_cons_zero, List.set_cons_succ, i64_w, i32_w]
         rfl
        refine pure_ (i := 8) (N := some 26) (v := ?_) (a' := ?_) #[true, true, true, true, false, false, true, true, true, false, false, false] rfl rfl (any_of HT_.out (by kernel_rfl)) (fun _ _ _ h => h) (Or.inl ⟨by rfl, ?_⟩) ?_ ?_
        rotate_left
        ·
         intro w'
         go_simp
         with_reducible rfl
        rotate_left
        ·
         simp only [Act.put, List.setIfInBounds_toArray, List.set_cons_zero, List.set_cons_succ, i64_w, i32_w]
         rfl
        refine pure_ (i := 9) (N := some 27) (v := ?_) (a' := ?_) #[true, true, true, true, false, false, true, true, true, true, false, false] rfl rfl (any_of HT_.out (by kernel_rfl)) (fun _ _ _ h => h) (Or.inl ⟨by rfl, ?_⟩) ?_ ?_
        rotate_left
        ·
         intro w'
         go_simp
         with_reducible rfl
        rotate_left
        ·
         simp only [Act.put, List.setIfInBounds_toArray, List.set_cons_zero, List.set_cons_succ, i64_w, i32_w]
         rfl
        refine one_ (i := 4) (N := some 22) #[true, true, true, true, true, false, true, true, true, true, false, false] rfl rfl (one_of HT_.out (by kernel_rfl)) (by decide) (fun K hK => ?_)
        refine value_ (w1 := ?_) (v := ?_) (by rfl) rfl ?_ ?_
        rotate_left 2
        ·
         go_simp
         constructor
         ·
          rfl
         ·
          rfl
        refine hK.out _ _ ⟨(blk_cell (blk_alloc BK254.out _) 0).trans rfl, (blk_cell (blk_alloc BK254.out _) 1).trans rfl, (blk_cell (blk_alloc BK254.out _) 2).trans rfl⟩ (fun hHeld => ?_)
        clear hK K
        refine norm_ (a' := ?_) ?_ ?_
        rotate_left
        ·
         show Act.put _ (some 22) _ = _
         simp only [Act.put, List.setIfInBounds_toArray, List.set_cons_zero, List.set_cons_succ, i64_w, i32_w]
         rfl
        refine one_ (i := 5) (N := some 23) #[true, true, true, true, true, true, true, true, true, true, false, false] rfl rfl (one_of HT_.out (by kernel_rfl)) (by decide) (fun K hK => ?_)
        refine Kd.R_append_step (Kd.int .u8) (w0 := w) w.heap.size (by rfl) (.tmp 18) (.tmp 22) 31 5 (.int .u8 0) 1 rfl Tryd.underlying31 info5 rfl (by decide) (by omega) u4 x4_1 (((rd_T49 l0 x11_1).f0) % 256) [.int .u8 (((rd_T49 l0 x11_1).f0) % 256)] (fun _ => True) (fun _ => False) rfl rfl ?aP (fun _ hk => hk.elim) ?aF ?aO ?aB ?aS ?aL ?_
        (case aP => exact rfl)
        (case aB => exact (by repeat (first | (with_reducible first | exact HB.out | apply below_alloc | apply pw_below_drewN | apply below_drew1 | refine below_set ?_ GE254.out) | exact HB.out)))
        (case aF => exact (fun _ _ => trivial))
        (case aO => exact (by (with_reducible repeat (first | apply Kd.R_alloc | apply Kd.R_drewN | apply Kd.R_drew)); exact HO_4.out))
        (case aS => exact (below_size (by repeat (first | (with_reducible first | exact HB.out | apply below_alloc | apply pw_below_drewN | apply below_drew1 | refine below_set ?_ GE254.out) | exact HB.out))))
        (case aL => have := LMc7.out; omega)
        intro v257 w13 ho hb hg hat
        rw [← Ny256.out] at ho
        have n0_ := Aside0.mk (blk_grown (g := gb254) (o := .cells #[.int .i64 ((rd_T49 l0 x11_1).f0), .slice A253_1 ((rd_T49 l0 x11_1).f1).length c253_1, .slice A253_2 ((rd_T49 l0 x11_1).f2).length c253_2] 49 (0, 0)) (by (with_reducible repeat (first | refine blk_drewN ?_ _ | refine blk_drew ?_ | refine blk_alloc ?_ _)); exact BK254.out) hg (Kd.R_ne HO_4.out BK254.out (by decide)))
        have n1_ := Aside0.mk (hb)
        have n2_ := Aside0.mk (ho)
        clear BK254
        clear HB
        clear HO_4
        have BK254 := n0_
        have HB := n1_
        have HO258 := n2_
        clear n0_ n1_ n2_
        clear ho hb hg hat
        obtain ⟨Ao14, co14, eo14⟩ := Kd.R_slice HO258.out
        (first | subst eo14 | (injection eo14 with f1_ f2_ f3_; have f4_ := f1_.symm; have f5_ := f3_.symm; clear f1_ f2_ f3_; subst f4_; subst f5_))
        refine hK.out _ _ ⟨(blk_cell BK254.out 0).trans rfl, (blk_cell BK254.out 1).trans rfl, (blk_cell BK254.out 2).trans rfl⟩ (fun hHeld => ?_)
        clear hK K
        refine norm_ (a' := ?_) ?_ ?_
        rotate_left
        ·
         show Act.put _ (some 23) _ = _
         simp only [Act.put, List.setIfInBounds_toArray, List.set_cons_zero, List.set_cons_succ, i64_w, i32_w]
         rfl
        refine one_ (i := 10) (N := some 28) #[true, true, true, true, true, true, true, true, true, true, true, false] rfl rfl (one_of HT_.out (by kernel_rfl)) (by decide) (fun K hK => ?_)
        refine goes_ Tryd.func31 (by kernel_rfl) rfl #[.slice Ao14 y256.length co14, .int .i64 2, .int .u64 (IntKind.u64.wrap ((((rd_T49 l0 x11_1).f1).length : Int)))] (by rfl) rfl rfl (by (try simp only [List.map_toArray, List.map_cons, List.map_nil]); first | done | rfl | (simp only [List.length_drop, List.length_take]; rfl)) ?_
        with_reducible refine (octet_Put.calls _ _ y256 2 (IntKind.u64.wrap ((((rd_T49 l0 x11_1).f1).length : Int))) t259 _ ?side1 ?side2 A8.out).mono ?_
        (case side1 => repeat (first | exact (Kd.R_reads' HO258.out).2.2 | (with_reducible refine Kd.C_alloc ?_ _) | (with_reducible refine Kd.C_drewN ?_ _) | (with_reducible refine Kd.C_drew ?_)))
        (case side2 => exact (Kd.R_reads' HO258.out).2.1)
        rintro e w15 ⟨v260, rfl, ho0, hb⟩
        refine ⟨_, rfl, ?_⟩
        have n0_ := Aside0.mk (Kd.R_elder' (by (with_reducible repeat (first | apply Kd.R_alloc | apply Kd.R_drewN | apply Kd.R_drew)); exact HO258.out) (Kd.R_base ho0) hb)
        have n1_ := Aside0.mk (Kd.R_lower (Kd.R_new' ho0 (Kd.R_lt (by (with_reducible repeat (first | apply Kd.R_alloc | apply Kd.R_drewN | apply Kd.R_drew)); exact HO258.out))) (below_size (by repeat (first | (with_reducible first | exact HB.out | apply below_alloc | apply pw_below_drewN | apply below_drew1 | refine below_set ?_ GE254.out) | exact HB.out))))
        have n2_ := Aside0.mk (blk_below (g := gb254) (o := .cells #[.int .i64 ((rd_T49 l0 x11_1).f0), .slice A253_1 ((rd_T49 l0 x11_1).f1).length c253_1, .slice A253_2 ((rd_T49 l0 x11_1).f2).length c253_2] 49 (0, 0)) (by (with_reducible repeat (first | refine blk_drewN ?_ _ | refine blk_drew ?_ | refine blk_alloc ?_ _)); exact BK254.out) hb)
        have n3_ := Aside0.mk (below_step (by repeat (first | (with_reducible first | exact HB.out | apply below_alloc | apply pw_below_drewN | apply below_drew1 | refine below_set ?_ GE254.out) | exact HB.out)) hb)
        clear HO258
        clear BK254
        clear HB
        have HO258 := n0_
        have HO261 := n1_
        have BK254 := n2_
        have HB := n3_
        clear n0_ n1_ n2_ n3_
        (try clear hb)
        (try clear hb2)
        (try clear hk)
        (try clear hi)
        (try clear ho0)
        refine hK.out _ _ ⟨(blk_cell BK254.out 0).trans rfl, (blk_cell BK254.out 1).trans rfl, (blk_cell BK254.out 2).trans rfl⟩ (fun hHeld => ?_)
        clear hK K
        refine norm_ (a' := ?_) ?_ ?_
        rotate_left
        ·
         show Act.put _ (some 28) _ = _
         simp only [Act.put, List.setIfInBounds_toArray, List.set_cons_zero, List.set_cons_succ, i64_w, i32_w]
         rfl
        refine pure_ (i := 11) (N := some 4) (v := ?_) (a' := ?_) #[true, true, true, true, true, true, true, true, true, true, true, true] rfl rfl (any_of HT_.out (by kernel_rfl)) (fun _ _ _ h => h) (Or.inl ⟨by rfl, ?_⟩) ?_ ?_
        rotate_left
        ·
         intro w'
         go_simp
         with_reducible rfl
        rotate_left
        ·
         simp only [Act.put, List.setIfInBounds_toArray, List.set_cons_zero, List.set_cons_succ, i64_w, i32_w]
         rfl
        refine done_ (done_of HT_.out (by kernel_rfl)) ?_
        have hcz16_0 : w15.cell? ⟨gb254, 0, none⟩ = some (.int .i64 ((rd_T49 l0 x11_1).f0)) := (blk_cell BK254.out 0).trans rfl
        have hcz16_1 : w15.cell? ⟨gb254, 1, none⟩ = some (.slice A253_1 ((rd_T49 l0 x11_1).f1).length c253_1) := (blk_cell BK254.out 1).trans rfl
        have hcz16_2 : w15.cell? ⟨gb254, 2, none⟩ = some (.slice A253_2 ((rd_T49 l0 x11_1).f2).length c253_2) := (blk_cell BK254.out 2).trans rfl
        have hfz16_0 := blk_frozen BK254.out 0
        have hfz16_1 := blk_frozen BK254.out 1
        have hfz16_2 := blk_frozen BK254.out 2
        try go_wp2
        go_loopg [4, 32] k1 (fun kq v4 v32 w' => ∃ (x4_2 : List Int) (x32_2 : Int), v32 = .int .i64 x32_2 ∧ Aside0 (wire_EncodeReplies.l1 kq x4_2 l0 (l0.length : Int) x11_1 ((rd_T49 l0 x11_1).f1) (((rd_T49 l0 x11_1).f1).length : Int) x32_2 ((rd_T49 l0 x11_1).f0) ((rd_T49 l0 x11_1).f1) ((rd_T49 l0 x11_1).f2) = some (r1, r2)) ∧ Aside0 (kq ≤ k1) ∧ Aside0 (Kd.R (Kd.int .u8) 5 w' w.heap.size (fun _ => True) v4 x4_2) ∧ Aside0 (w'.heap[gb254]? = some (.cells #[.int .i64 ((rd_T49 l0 x11_1).f0), (.slice A253_1 ((rd_T49 l0 x11_1).f1).length c253_1), (.slice A253_2 ((rd_T49 l0 x11_1).f2).length c253_2)] 49 (0, 0))) ∧ Aside0 (Below w.heap.size w w'))
        case atStart => exact ⟨(t259), (0), (by first | rfl | (simp; done) | (simp [*]; done)), H', ⟨Nat.le_refl _⟩, ⟨by (with_reducible repeat (first | apply Kd.R_alloc | apply Kd.R_drewN | apply Kd.R_drew)); exact Kd.R_mono HO261.out (fun _ hk => trivial)⟩, ⟨by (with_reducible repeat (first | refine blk_drewN ?_ _ | refine blk_drew ?_ | refine blk_alloc ?_ _)); exact BK254.out⟩, ⟨by repeat (first | (with_reducible first | exact HB.out | apply below_alloc | apply pw_below_drewN | apply below_drew1 | refine below_set ?_ GE254.out) | exact HB.out)⟩⟩
        case round =>
         clear H'
         try clear c2
         try clear c2b0
         try clear p2
         try clear q2
         try clear hx2
         try clear c3
         try clear c3b0
         try clear c4
         try clear c4b0
         try clear c6
         try clear c7
         try clear hcz10_0
         try clear hcz10_1
         try clear hcz10_2
         try clear hcz16_0
         try clear hcz16_1
         try clear hcz16_2
         try clear hfz10_0
         try clear hfz10_1
         try clear hfz10_2
         try clear hfz16_0
         try clear hfz16_1
         try clear hfz16_2
         try clear hx253_0
         try clear hx253_1
         try clear hx253_2
         try clear p253
         try clear q253
         obtain ⟨x4_2, x32_2, rfl, HA, HK2, HO_4, BK254, HB⟩ := hrel
         cases gk with
         | zero => exact absurd HA.out (by simp [wire_EncodeReplies.l1])
         | succ k2 =>
          have H := HA.out
          clear HA
          simp only [wire_EncodeReplies.l1] at H
          by_cases c17 : x32_2 < (((rd_T49 l0 x11_1).f1).length : Int)
          ·
           rw [if_pos c17] at H
           have c17b0 : decide (x32_2 < (((rd_T49 l0 x11_1).f1).length : Int)) = true := decide_eq_true c17
           clear c17
           by_cases c18 : 0 ≤ x32_2
           ·
            rw [if_pos c18] at H
            have c18b0 : decide (0 ≤ x32_2) = true := decide_eq_true c18
            clear c18
            by_cases c19 : x32_2 < (((rd_T49 l0 x11_1).f1).length : Int)
            ·
             rw [if_pos c19] at H
             have c19b0 : decide (x32_2 < (((rd_T49 l0 x11_1).f1).length : Int)) = true := decide_eq_true c19
             clear c19
             replace H := Option.bind_eq_some_iff.mp H
             obtain ⟨t263, A200, H⟩ := H
             replace H : (wire_EncodeReplies.l1 k2 t263 l0 (l0.length : Int) x11_1 ((rd_T49 l0 x11_1).f1) (((rd_T49 l0 x11_1).f1).length : Int) (wrap64 (x32_2 + 1)) ((rd_T49 l0 x11_1).f0) ((rd_T49 l0 x11_1).f1) ((rd_T49 l0 x11_1).f2)) = some (r1, r2) := H
             have A20 := Aside0.mk A200
             clear A200
             have H' := Aside0.mk H
             clear H
             have p262 : 0 ≤ (x32_2 : Int) := of_decide_eq_true (by first | (with_reducible assumption) | assumption)
             have q262 : x32_2 < (((rd_T49 l0 x11_1).f1).length : Int) := of_decide_eq_true (by first | (with_reducible assumption) | assumption)
             obtain ⟨ad262, e262, hx262_0⟩ := Kd.at_int HR253_1.out x32_2 p262 q262
             cases e262
             replace hx262_0 := (HB.out.cell (World.block_lt_of_cell? w _ hx262_0)).trans hx262_0
             replace p262 := eq_true p262
             replace q262 := eq_true q262
             obtain ⟨Ao21, co21, eo21⟩ := Kd.R_slice HO_4.out
             subst eo21
             go_wp2_with (first | ((with_reducible refine gate_callee (f := 31) rfl ?_); refine goesL_ (some 39) rfl rfl Tryd.func31 (by kernel_rfl) rfl #[.slice Ao21 x4_2.length co21, .int .i64 8, .int .u64 (IntKind.u64.wrap (rd ((rd_T49 l0 x11_1).f1) x32_2))] rfl (by (try simp only [List.map_toArray, List.map_cons, List.map_nil]); first | done | rfl | (simp only [List.length_drop, List.length_take]; rfl)) ?_; (with_reducible refine (octet_Put.calls _ _ x4_2 8 (IntKind.u64.wrap (rd ((rd_T49 l0 x11_1).f1) x32_2)) t263 _ ?side1 ?side2 A20.out).mono ?_); (case side1 => repeat (first | exact (Kd.R_reads' HO_4.out).2.2 | (with_reducible refine Kd.C_alloc ?_ _) | (with_reducible refine Kd.C_drewN ?_ _) | (with_reducible refine Kd.C_drew ?_))); (case side2 => exact (Kd.R_reads' HO_4.out).2.1); rintro e w22 ⟨v264, rfl, ho0, hb⟩; refine ⟨_, rfl, ?_⟩; have n0_ := Aside0.mk (Kd.R_elder' (by (with_reducible repeat (first | apply Kd.R_alloc | apply Kd.R_drewN | apply Kd.R_drew)); exact HO_4.out) (Kd.R_base ho0) hb); have n1_ := Aside0.mk (Kd.R_lower (Kd.R_new' ho0 (Kd.R_lt (by (with_reducible repeat (first | apply Kd.R_alloc | apply Kd.R_drewN | apply Kd.R_drew)); exact HO_4.out))) (below_size (by repeat (first | (with_reducible first | exact HB.out | apply below_alloc | apply pw_below_drewN | apply below_drew1 | refine below_set ?_ GE254.out) | exact HB.out)))); have n2_ := Aside0.mk (blk_below (g := gb254) (o := .cells #[.int .i64 ((rd_T49 l0 x11_1).f0), .slice (some ad262) ((rd_T49 l0 x11_1).f1).length c253_1, .slice A253_2 ((rd_T49 l0 x11_1).f2).length c253_2] 49 (0, 0)) (by (with_reducible repeat (first | refine blk_drewN ?_ _ | refine blk_drew ?_ | refine blk_alloc ?_ _)); exact BK254.out) hb); have n3_ := Aside0.mk (below_step (by repeat (first | (with_reducible first | exact HB.out | apply below_alloc | apply pw_below_drewN | apply below_drew1 | refine below_set ?_ GE254.out) | exact HB.out)) hb); clear HO_4; clear BK254; clear HB; have HO_4 := n0_; have HO265 := n1_; have BK254 := n2_; have HB := n3_; clear n0_ n1_ n2_ n3_; (try clear hb); (try clear hb2); (try clear hk); (try clear hi); (try clear ho0)))
             go_roundg k2
             case measure => have := HK1.out; have := HK2.out; omega
             case rel => exact ⟨(t263), (wrap64 (x32_2 + 1)), (by first | rfl | (simp; done) | (simp [*]; done)), H', ⟨by have := HK1.out; have := HK2.out; omega⟩, ⟨by (with_reducible repeat (first | apply Kd.R_alloc | apply Kd.R_drewN | apply Kd.R_drew)); exact Kd.R_mono HO265.out (fun _ hk => trivial)⟩, ⟨by (with_reducible repeat (first | refine blk_drewN ?_ _ | refine blk_drew ?_ | refine blk_alloc ?_ _)); exact BK254.out⟩, ⟨by repeat (first | (with_reducible first | exact HB.out | apply below_alloc | apply pw_below_drewN | apply below_drew1 | refine below_set ?_ GE254.out) | exact HB.out)⟩⟩
            ·
             rw [if_neg c19] at H
             exact absurd H (by simp)
           ·
            rw [if_neg c18] at H
            exact absurd H (by simp)
          ·
           rw [if_neg c17] at H
           have c17b0 : decide (x32_2 < (((rd_T49 l0 x11_1).f1).length : Int)) = false := decide_eq_false c17
           clear c17
           by_cases c23 : x4_2.length < 140737488355328
           ·
            rw [if_pos c23] at H
            have LMc23 := Aside0.mk c23
            clear c23
            obtain ⟨y266, hy266⟩ : ∃ y_ : List Int, y_ = (x4_2 ++ [((((rd_T49 l0 x11_1).f2).length : Int)) % 256]) := ⟨_, rfl⟩
            replace H : ((wire_laid.f k2 y266 ((rd_T49 l0 x11_1).f2)).bind fun t269 => (wire_EncodeReplies.l0 k2 t269 l0 (l0.length : Int) (wrap64 (x11_1 + 1)))) = some (r1, r2) := by first | (rw [hy266]; with_reducible exact H) | (have H2_ := (Option.bind_some _ _).symm.trans H; rw [hy266]; with_reducible exact H2_) | (have H2_ := (Option.bind_some _ _).symm.trans H; with_reducible exact H2_) | with_reducible exact H | (rw [hy266]; exact H) | exact H
            have Ny266 := Aside0.mk hy266
            clear hy266
            replace H := Option.bind_eq_some_iff.mp H
            obtain ⟨t269, A240, H⟩ := H
            replace H : (wire_EncodeReplies.l0 k2 t269 l0 (l0.length : Int) (wrap64 (x11_1 + 1))) = some (r1, r2) := H
            have A24 := Aside0.mk A240
            clear A240
            have H' := Aside0.mk H
            clear H
            try go_wp2
            have n0_ := Aside0.mk (Kd.R_drew HO_4.out)
            have n1_ := Aside0.mk (blk_drew BK254.out)
            have n2_ := Aside0.mk (below_drew1 HB.out)
            clear HO_4
            clear BK254
            clear HB
            have HO_4 := n0_
            have BK254 := n1_
            have HB := n2_
            clear n0_ n1_ n2_
            refine start_ (n := 11) (S := fun w' => w'.cell? ⟨gb254, 0, none⟩ = some (.int .i64 ((rd_T49 l0 x11_1).f0)) ∧ w'.cell? ⟨gb254, 1, none⟩ = some (.slice A253_1 ((rd_T49 l0 x11_1).f1).length c253_1) ∧ w'.cell? ⟨gb254, 2, none⟩ = some (.slice A253_2 ((rd_T49 l0 x11_1).f2).length c253_2)) (ds := []) #[false, false, false, false, false, false, false, false, false, false, false] (by kernel_rfl) rfl rfl ⟨(blk_cell BK254.out 0).trans rfl, (blk_cell BK254.out 1).trans rfl, (blk_cell BK254.out 2).trans rfl⟩ (fun hHeld => ?_); refine with_tabW wire_EncodeReplies.tab13 wire_EncodeReplies.bits13 (fun HT_ HW_ => ?_)
            generalize wr.drew = w25 at HO_4 BK254 HB hHeld ⊢
            refine pure_ (i := 0) (N := some 41) (v := ?_) (a' := ?_) #[true, false, false, false, false, false, false, false, false, false, false] rfl rfl (any_of HT_.out (by kernel_rfl)) (fun _ _ _ h => h) (Or.inl ⟨by rfl, ?_⟩) ?_ ?_
            rotate_left
            ·
             intro w'
             go_simp
             with_reducible rfl
            rotate_left
            ·
             simp only [Act.put, List.setIfInBounds_toArray, List.set_cons_zero, List.set_cons_succ, i64_w, i32_w]
             rfl
            refine pure_ (i := 1) (N := some 42) (v := ?_) (a' := ?_) #[true, true, false, false, false, false, false, false, false, false, false] rfl rfl (any_of HT_.out (by kernel_rfl)) (fun _ _ _ h => h) (Or.inl ⟨by rfl, ?_⟩) ?_ ?_
            rotate_left
            ·
             intro w'
             go_simp
             with_reducible rfl
            rotate_left
            ·
             simp only [Act.put, List.setIfInBounds_toArray, List.set_cons_zero, List.set_cons_succ, i64_w, i32_w]
             rfl
            refine pure_ (i := 7) (N := some 48) (v := ?_) (a' := ?_) #[true, true, false, false, false, false, false, true, false, false, false] rfl rfl (any_of HT_.out (by kernel_rfl)) (fun _ _ _ h => h) (Or.inl ⟨by rfl, ?_⟩) ?_ ?_
            rotate_left
            ·
             intro w'
             go_simp
             with_reducible rfl
            rotate_left
            ·
             simp only [Act.put, List.setIfInBounds_toArray, List.set_cons_zero, List.set_cons_succ, i64_w, i32_w]
             rfl
            refine take_ (i := 2) (N := some 43) (v := ?_) (a' := ?_) #[true, true, true, false, false, false, false, true, false, false, false] rfl rfl (take_ofW HT_.out HW_.out (by kernel_rfl)) (fun _ _ _ h => h) (Or.inl ⟨by rfl, ?_⟩) hHeld ?_ ?_
            rotate_left
            ·
             rintro w' ⟨s0, s1, s2⟩
             go_simp
             with_reducible rfl
            rotate_left
            ·
             simp only [Act.put, List.setIfInBounds_toArray, List.set_cons_zero, List.set_cons_succ, i64_w, i32_w]
             rfl
            refine pure_ (i := 3) (N := some 44) (v := ?_) (a' := ?_) #[true, true, true, true, false, false, false, true, false, false, false] rfl rfl (any_of HT_.out (by kernel_rfl)) (fun _ _ _ h => h) (Or.inl ⟨by rfl, ?_⟩) ?_ ?_
            rotate_left
            ·
             intro w'
             go_simp
             with_reducible rfl
            rotate_left
            ·
             simp only [Act.put, List.setIfInBounds_toArray, List.set_cons_zero, List.set_cons_succ, i64_w, i32_w]
             rfl
            refine pure_ (i := 4) (N := some 45) (v := ?_) (a' := ?_) #[true, true, true, true, true, false, false, true, false, false, false] rfl rfl (any_of HT_.out (by kernel_rfl)) (fun _ _ _ h => h) (Or.inl ⟨by rfl, ?_⟩) ?_ ?_
            rotate_left
            ·
             intro w'
             go_simp
             with_reducible rfl
            rotate_left
            ·
             simp only [Act.put, List.setIfInBounds_toArray, List.set_cons_zero, List.set_cons_succ, i64_w, i32_w]
             rfl
            refine take_ (i := 8) (N := some 49) (v := ?_) (a' := ?_) #[true, true, true, true, true, false, false, true, true, false, false] rfl rfl (take_ofW HT_.out HW_.out (by kernel_rfl)) (fun _ _ _ h => h) (Or.inl ⟨by rfl, ?_⟩) hHeld ?_ ?_
            rotate_left
            ·
             rintro w' ⟨s0, s1, s2⟩
             go_simp
             with_reducible rfl
            rotate_left
            ·
             simp only [Act.put, List.setIfInBounds_toArray, List.set_cons_zero, List.set_cons_succ, i64_w, i32_w]
             rfl
            refine one_ (i := 5) (N := some 46) #[true, true, true, true, true, true, false, true, true, false, false] rfl rfl (one_of HT_.out (by kernel_rfl)) (by decide) (fun K hK => ?_)
            refine value_ (w1 := ?_) (v := ?_) (by rfl) rfl ?_ ?_
            rotate_left 2
            ·
             go_simp
             constructor
             ·
              rfl
             ·
              rfl
            refine hK.out _ _ ⟨(blk_cell (blk_alloc BK254.out _) 0).trans rfl, (blk_cell (blk_alloc BK254.out _) 1).trans rfl, (blk_cell (blk_alloc BK254.out _) 2).trans rfl⟩ (fun hHeld => ?_)
            clear hK K
            refine norm_ (a' := ?_) ?_ ?_
            rotate_left
            ·
             show Act.put _ (some 46) _ = _
             simp only [Act.put, List.setIfInBounds_toArray, List.set_cons_zero, List.set_cons_succ, i64_w, i32_w]
             rfl
            refine one_ (i := 6) (N := some 47) #[true, true, true, true, true, true, true, true, true, false, false] rfl rfl (one_of HT_.out (by kernel_rfl)) (by decide) (fun K hK => ?_)
            refine Kd.R_append_step (Kd.int .u8) (w0 := w) w.heap.size (by rfl) (.tmp 41) (.tmp 46) 31 5 (.int .u8 0) 1 rfl Tryd.underlying31 info5 rfl (by decide) (by omega) u4 x4_2 (((((rd_T49 l0 x11_1).f2).length : Int)) % 256) [.int .u8 (((((rd_T49 l0 x11_1).f2).length : Int)) % 256)] (fun _ => True) (fun _ => False) rfl rfl ?aP (fun _ hk => hk.elim) ?aF ?aO ?aB ?aS ?aL ?_
            (case aP => exact rfl)
            (case aB => exact (by repeat (first | (with_reducible first | exact HB.out | apply below_alloc | apply pw_below_drewN | apply below_drew1 | refine below_set ?_ GE254.out) | exact HB.out)))
            (case aF => exact (fun _ _ => trivial))
            (case aO => exact (by (with_reducible repeat (first | apply Kd.R_alloc | apply Kd.R_drewN | apply Kd.R_drew)); exact HO_4.out))
            (case aS => exact (below_size (by repeat (first | (with_reducible first | exact HB.out | apply below_alloc | apply pw_below_drewN | apply below_drew1 | refine below_set ?_ GE254.out) | exact HB.out))))
            (case aL => have := LMc23.out; omega)
            intro v267 w26 ho hb hg hat
            rw [← Ny266.out] at ho
            have n0_ := Aside0.mk (blk_grown (g := gb254) (o := .cells #[.int .i64 ((rd_T49 l0 x11_1).f0), .slice A253_1 ((rd_T49 l0 x11_1).f1).length c253_1, .slice A253_2 ((rd_T49 l0 x11_1).f2).length c253_2] 49 (0, 0)) (by (with_reducible repeat (first | refine blk_drewN ?_ _ | refine blk_drew ?_ | refine blk_alloc ?_ _)); exact BK254.out) hg (Kd.R_ne HO_4.out BK254.out (by decide)))
            have n1_ := Aside0.mk (hb)
            have n2_ := Aside0.mk (ho)
            clear BK254
            clear HB
            clear HO_4
            have BK254 := n0_
            have HB := n1_
            have HO268 := n2_
            clear n0_ n1_ n2_
            clear ho hb hg hat
            obtain ⟨Ao27, co27, eo27⟩ := Kd.R_slice HO268.out
            (first | subst eo27 | (injection eo27 with f1_ f2_ f3_; have f4_ := f1_.symm; have f5_ := f3_.symm; clear f1_ f2_ f3_; subst f4_; subst f5_))
            refine hK.out _ _ ⟨(blk_cell BK254.out 0).trans rfl, (blk_cell BK254.out 1).trans rfl, (blk_cell BK254.out 2).trans rfl⟩ (fun hHeld => ?_)
            clear hK K
            refine norm_ (a' := ?_) ?_ ?_
            rotate_left
            ·
             show Act.put _ (some 47) _ = _
             simp only [Act.put, List.setIfInBounds_toArray, List.set_cons_zero, List.set_cons_succ, i64_w, i32_w]
             rfl
            refine one_ (i := 9) (N := some 50) #[true, true, true, true, true, true, true, true, true, true, false] rfl rfl (one_of HT_.out (by kernel_rfl)) (by decide) (fun K hK => ?_)
            refine goes_ Tryd.func30 (by kernel_rfl) rfl #[.slice Ao27 y266.length co27, .slice A253_2 ((rd_T49 l0 x11_1).f2).length c253_2] (by rfl) rfl rfl (by (try simp only [List.map_toArray, List.map_cons, List.map_nil]); first | done | rfl | (simp only [List.length_drop, List.length_take]; rfl)) ?_
            with_reducible refine (wire_laid.calls k2 (fun k_ => some k_ = (.slice Ao27 y266.length co27 : Value).ownBlock) (.slice Ao27 y266.length co27) y266 _ _ ((rd_T49 l0 x11_1).f2) t269 w _ ?side1 ?side2 ?side3 ?side4 A24.out).mono ?_
            (case side1 => repeat (first | (with_reducible first | exact HB.out | apply below_alloc | apply pw_below_drewN | apply below_drew1 | refine below_set ?_ GE254.out) | exact HB.out))
            (case side2 => exact Kd.R_tight rfl HO268.out)
            (case side3 => exact Kd.C_kept_came (Kd.heap_int .i64) HR253_2.out (by repeat (first | (with_reducible first | exact HB.out | apply below_alloc | apply pw_below_drewN | apply below_drew1 | refine below_set ?_ GE254.out) | exact HB.out)) (fun k_ hs_ => (fun e_ => Kd.R_base HO268.out k_ e_.symm) hs_))
            (case side4 => exact HC253_2.out)
            rintro e w28 ⟨v270, rfl, ho0, hb, hkp⟩
            refine ⟨_, rfl, ?_⟩
            have n0_ := Aside0.mk (blk_kept (by (with_reducible repeat (first | refine blk_drewN ?_ _ | refine blk_drew ?_ | refine blk_alloc ?_ _)); exact BK254.out) hkp (fun hs_ => (fun e_ => (Kd.R_ne HO268.out BK254.out (by decide)) e_) hs_))
            have n1_ := Aside0.mk (Kd.R_mono (ok' := fun k_ => True) ho0 (fun k_ hk_ => trivial))
            have n2_ := Aside0.mk (hb)
            clear BK254
            clear HB
            clear HO268
            have BK254 := n0_
            have HO271 := n1_
            have HB := n2_
            clear n0_ n1_ n2_
            (try clear hb)
            (try clear hkp)
            (try clear ho0)
            refine hK.out _ _ ⟨(blk_cell BK254.out 0).trans rfl, (blk_cell BK254.out 1).trans rfl, (blk_cell BK254.out 2).trans rfl⟩ (fun hHeld => ?_)
            clear hK K
            refine norm_ (a' := ?_) ?_ ?_
            rotate_left
            ·
             show Act.put _ (some 50) _ = _
             simp only [Act.put, List.setIfInBounds_toArray, List.set_cons_zero, List.set_cons_succ, i64_w, i32_w]
             rfl
            refine pure_ (i := 10) (N := some 4) (v := ?_) (a' := ?_) #[true, true, true, true, true, true, true, true, true, true, true] rfl rfl (any_of HT_.out (by kernel_rfl)) (fun _ _ _ h => h) (Or.inl ⟨by rfl, ?_⟩) ?_ ?_
            rotate_left
            ·
             intro w'
             go_simp
             with_reducible rfl
            rotate_left
            ·
             simp only [Act.put, List.setIfInBounds_toArray, List.set_cons_zero, List.set_cons_succ, i64_w, i32_w]
             rfl
            refine done_ (done_of HT_.out (by kernel_rfl)) ?_
            try go_wp2
            go_roundg k2
            case measure => have := HK1.out; have := HK2.out; omega
            case rel => exact ⟨(t269), (wrap64 (x11_1 + 1)), (by first | rfl | (simp; done) | (simp [*]; done)), H', ⟨by have := HK1.out; have := HK2.out; omega⟩, ⟨by (with_reducible repeat (first | apply Kd.R_alloc | apply Kd.R_drewN | apply Kd.R_drew)); exact HO271.out⟩, ⟨by repeat (first | (with_reducible first | exact HB.out | apply below_alloc | apply pw_below_drewN | apply below_drew1 | refine below_set ?_ GE254.out) | exact HB.out)⟩⟩
           ·
            rw [if_neg c23] at H
            exact absurd H (by simp)
       ·
        rw [if_neg c7] at H
        exact absurd H (by simp)
      ·
       replace c6 := Bool.eq_false_iff.mpr c6
       subst c6
       have H1 : (some (([] : List Int), 1)) = some (r1, r2) := by rw [if_neg (show ¬ (false = true) by decide)] at H; exact H
       clear H
       have H := H1
       clear H1
       simp only [Option.some.injEq, Prod.mk.injEq] at H
       obtain ⟨rfl, rfl⟩ := H
       have p253 : 0 ≤ (x11_1 : Int) := of_decide_eq_true (by first | (with_reducible assumption) | assumption)
       have q253 : x11_1 < (l0.length : Int) := of_decide_eq_true (by first | (with_reducible assumption) | assumption)
       obtain ⟨ad253, A253_1, c253_1, A253_2, c253_2, e253, hx253_0, hx253_1, hx253_2, hl253_1, hi253_1, hl253_2, hi253_2⟩ := at_T49 HR0.out x11_1 p253 q253
       cases e253
       replace hx253_0 := (HB.out.cell (World.block_lt_of_cell? w _ hx253_0)).trans hx253_0
       replace hx253_1 := (HB.out.cell (World.block_lt_of_cell? w _ hx253_1)).trans hx253_1
       replace hx253_2 := (HB.out.cell (World.block_lt_of_cell? w _ hx253_2)).trans hx253_2
       have HR253_1 := Aside0.mk hi253_1
       have HC253_1 := Aside0.mk hl253_1
       clear hi253_1 hl253_1
       have HR253_2 := Aside0.mk hi253_2
       have HC253_2 := Aside0.mk hl253_2
       clear hi253_2 hl253_2
       replace p253 := eq_true p253
       replace q253 := eq_true q253
       go_wp2_with (first | ((with_reducible refine gate_dst (N := 6) rfl ?_); refine box_event ?hg (N := 6) ?hd (cs := #[.int .i64 0, .slice none 0 0, .slice none 0 0]) (t := 49) ?hr ?_; (case hd => rfl); (case hg => rfl); (case hr => first | (go_simp; done) | (go_simp; rfl)); intro gb254 hg w29 hbox hb; have n0_ := Aside0.mk (Kd.R_below (by (with_reducible repeat (first | apply Kd.R_alloc | apply Kd.R_drewN | apply Kd.R_drew)); exact HO_4.out) hb); have n1_ := Aside0.mk (below_step (by repeat (first | (with_reducible first | exact HB.out | apply below_alloc | apply pw_below_drewN | apply below_drew1) | exact HB.out)) hb); have n2_ := Aside0.mk (hbox); have n3_ := Aside0.mk ((by rw [hg]; exact (below_size (by repeat (first | (with_reducible first | exact HB.out | apply below_alloc | apply pw_below_drewN | apply below_drew1) | exact HB.out))) : w.heap.size ≤ gb254)); have n4_ := Aside0.mk ((by rw [hg]; exact (below_size (by repeat (first | (with_reducible first | exact HB.out | apply below_alloc | apply pw_below_drewN | apply below_drew1) | exact HB.out))) : w.heap.size ≤ gb254)); clear HO_4; clear HB; have HO_4 := n0_; have HB := n1_; have BK254 := n2_; have GW254 := n3_; have GE254 := n4_; clear n0_ n1_ n2_ n3_ n4_; clear hb hbox hg; have hcz30_0 : w29.cell? ⟨gb254, 0, none⟩ = some (.int .i64 0) := (blk_cell BK254.out 0).trans rfl; have hcz30_1 : w29.cell? ⟨gb254, 1, none⟩ = some (.slice none 0 0) := (blk_cell BK254.out 1).trans rfl; have hcz30_2 : w29.cell? ⟨gb254, 2, none⟩ = some (.slice none 0 0) := (blk_cell BK254.out 2).trans rfl; have hfz30_0 := blk_frozen BK254.out 0; have hfz30_1 := blk_frozen BK254.out 1; have hfz30_2 := blk_frozen BK254.out 2) | ((with_reducible refine gate_callee (f := 39) rfl ?_); refine goesL_ (some 16) rfl rfl Tryd.func39 (by kernel_rfl) rfl #[.agg #[.int .i64 ((rd_T49 l0 x11_1).f0), .slice A253_1 ((rd_T49 l0 x11_1).f1).length c253_1, .slice A253_2 ((rd_T49 l0 x11_1).f2).length c253_2]] rfl (by (try simp only [List.map_toArray, List.map_cons, List.map_nil]); first | done | rfl | (simp only [List.length_drop, List.length_take]; rfl)) ?_; (with_reducible refine (wire_fits.calls k1 ((rd_T49 l0 x11_1).f0) _ _ ((rd_T49 l0 x11_1).f1) _ _ ((rd_T49 l0 x11_1).f2) false _ ?side1 ?side2 ?side3 ?side4 A5.out).mono ?_); (case side1 => exact Kd.C_below HR253_1.out (by repeat (first | (with_reducible first | exact HB.out | apply below_alloc | apply pw_below_drewN | apply below_drew1 | refine below_set ?_ GE254.out) | exact HB.out))); (case side2 => exact HC253_1.out); (case side3 => exact Kd.C_below HR253_2.out (by repeat (first | (with_reducible first | exact HB.out | apply below_alloc | apply pw_below_drewN | apply below_drew1 | refine below_set ?_ GE254.out) | exact HB.out))); (case side4 => exact HC253_2.out); rintro e w31 ⟨rfl, hb⟩; refine ⟨_, rfl, ?_⟩; have n0_ := Aside0.mk (Kd.R_below (by (with_reducible repeat (first | apply Kd.R_alloc | apply Kd.R_drewN | apply Kd.R_drew)); exact (Kd.R_mono (Kd.R_far (p := ⟨gb254, 2, none⟩) (Kd.R_far (p := ⟨gb254, 1, none⟩) (Kd.R_far (p := ⟨gb254, 0, none⟩) (Kd.R_types HO_4.out BK254.out (by decide)) (fun _ hk => hk.2) (.int .i64 ((rd_T49 l0 x11_1).f0))) (fun _ hk => hk.2) (.slice A253_1 ((rd_T49 l0 x11_1).f1).length c253_1)) (fun _ hk => hk.2) (.slice A253_2 ((rd_T49 l0 x11_1).f2).length c253_2)) (fun _ h_ => h_.1))) hb); have n1_ := Aside0.mk (blk_below (g := gb254) (o := .cells #[.int .i64 ((rd_T49 l0 x11_1).f0), .slice A253_1 ((rd_T49 l0 x11_1).f1).length c253_1, .slice A253_2 ((rd_T49 l0 x11_1).f2).length c253_2] 49 (0, 0)) (by (with_reducible repeat (first | refine blk_drewN ?_ _ | refine blk_drew ?_ | refine blk_alloc ?_ _)); refine blk_put (cs := #[.int .i64 ((rd_T49 l0 x11_1).f0), .slice A253_1 ((rd_T49 l0 x11_1).f1).length c253_1, .slice none 0 0]) ?_ 2 _ rfl; (with_reducible repeat (first | refine blk_drewN ?_ _ | refine blk_drew ?_ | refine blk_alloc ?_ _)); refine blk_put (cs := #[.int .i64 ((rd_T49 l0 x11_1).f0), .slice none 0 0, .slice none 0 0]) ?_ 1 _ rfl; (with_reducible repeat (first | refine blk_drewN ?_ _ | refine blk_drew ?_ | refine blk_alloc ?_ _)); refine blk_put (cs := #[.int .i64 0, .slice none 0 0, .slice none 0 0]) ?_ 0 _ rfl; (with_reducible repeat (first | refine blk_drewN ?_ _ | refine blk_drew ?_ | refine blk_alloc ?_ _)); exact BK254.out) hb); have n2_ := Aside0.mk (below_step (by repeat (first | (with_reducible first | exact HB.out | apply below_alloc | apply pw_below_drewN | apply below_drew1 | refine below_set ?_ GE254.out) | exact HB.out)) hb); clear HO_4; clear BK254; clear HB; have HO_4 := n0_; have BK254 := n1_; have HB := n2_; clear n0_ n1_ n2_; (try clear hb); (try clear hb2); (try clear hk); (try clear hi)))
       go_ret2
       exact ⟨_, by first | rfl | (simp [errW_none, errW_some] <;> rfl) | (simp [*, errW_none, errW_some] <;> rfl), by first | exact Kd.R_nil _ _ _ _ _ | exact Kd.N_nil _ _ _ _ _ | exact Kd.V_nil _ _ _ _ _ | exact Kd.Q_nil _ _ _ _ _ | exact Kd.S_nil _ _ _ _ _, by repeat (first | (with_reducible first | exact HB.out | apply below_alloc | apply pw_below_drewN | apply below_drew1 | refine below_set ?_ GE254.out) | exact HB.out)⟩
     ·
      rw [if_neg c4] at H
      exact absurd H (by simp)
    ·
     rw [if_neg c3] at H
     exact absurd H (by simp)
   ·
    rw [if_neg c2] at H
    have c2b0 : decide (x11_1 < (l0.length : Int)) = false := decide_eq_false c2
    clear c2
    simp only [Option.some.injEq, Prod.mk.injEq] at H
    obtain ⟨rfl, rfl⟩ := H
    go_wp2
    go_ret2
    exact ⟨_, by first | rfl | (simp [errW_none, errW_some] <;> rfl) | (simp [*, errW_none, errW_some] <;> rfl), by (with_reducible repeat (first | apply Kd.R_alloc | apply Kd.R_drewN | apply Kd.R_drew)); exact HO_4.out, by repeat (first | (with_reducible first | exact HB.out | apply below_alloc | apply pw_below_drewN | apply below_drew1) | exact HB.out)⟩
end Go.Proofs.YteapmebmgaggcaaDoor.PW

namespace Go.Proofs.YteapmebmgaggcaaDoor.PW
open Go.RowKit Go.Proofs.YteapmebmgaggcaaDoorW.PrintWords Go.Proofs.YteapmebmgaggcaaDoorW.PrintLast Go.Proofs.YteapmebmgaggcaaDoorW.PrintMore
attribute [local go_sem] max2_int min2_int max_two min_two max_three min_three max_four min_four   -- for this text's walks alone
set_option linter.unusedVariables false
set_option linter.unusedSimpArgs false

attribute [local go_sem high] eqA23 eqA30
/-! ### ringroadref26_in: function 25 -/
def ringroadref26_in.f (a0 : Int) (a1 : Int) (a2 : Int) : Option (Bool) := if a0 ≥ a1 then (some (decide (a0 ≤ a2))) else (some false)
set_option maxHeartbeats 8000000 in
set_option maxRecDepth 100000 in
theorem ringroadref26_in.calls (a0 : Int) (a1 : Int) (a2 : Int) (r : Bool) (w : World) (h : ringroadref26_in.f a0 a1 a2 = some r) :
  Calls Tryd.prog 25 #[.int .i64 a0, .int .i64 a1, .int .i64 a2] w fun e w' => e = .returned (.bool r) ∧ Drawn0 w w' := by
 have H : (if a0 ≥ a1 then (some (decide (a0 ≤ a2))) else (some false)) = some r := h
 clear h
 by_cases c4 : a0 ≥ a1
 ·
  rw [if_pos c4] at H
  have c4b0 : decide (a1 ≤ a0) = true := decide_eq_true c4
  clear c4
  obtain rfl := Option.some.inj H
  go_enter Tryd.func25, Tryd.ntmps25
  go_wp2
  go_ret
  exact ⟨by first | rfl | (simp; done) | (simp [*]; done), by repeat (first | exact Drawn0.refl _ | apply Drawn0.step)⟩
 ·
  rw [if_neg c4] at H
  have c4b0 : decide (a1 ≤ a0) = false := decide_eq_false c4
  clear c4
  obtain rfl := Option.some.inj H
  go_enter Tryd.func25, Tryd.ntmps25
  go_wp2
  go_ret
  exact ⟨by first | rfl | (simp; done) | (simp [*]; done), by repeat (first | exact Drawn0.refl _ | apply Drawn0.step)⟩
/-! ### ringroadref26_Fits: function 22 -/
mutual
def ringroadref26_Fits.j0 : Nat → Bool → Int → List Int → List Int → Option (Bool)
 | 0, _, _, _, _ => none
 | k + 1, x20, x244000, x244001, x244002 => if x20 = true then (some false) else (ringroadref26_Fits.l0 k 0 x244000 x244001 x244002)
def ringroadref26_Fits.l0 : Nat → Int → Int → List Int → List Int → Option (Bool)
 | 0, _, _, _, _ => none
 | k + 1, x3, x244000, x244001, x244002 => if x3 < (x244001.length : Int) then (if 0 ≤ x3 then (if (rd x244001 x3) < 0 then (some false) else (ringroadref26_Fits.l0 k (wrap64 (x3 + 1)) x244000 x244001 x244002)) else (none)) else (ringroadref26_Fits.l1 k 0 x244000 x244001 x244002)
def ringroadref26_Fits.l1 : Nat → Int → Int → List Int → List Int → Option (Bool)
 | 0, _, _, _, _ => none
 | k + 1, x4, x244000, x244001, x244002 => if x4 < (x244002.length : Int) then (if 0 ≤ x4 then ((ringroadref26_in.f (rd x244002 x4) 0 255).bind fun t247 => (if t247 = true then (ringroadref26_Fits.l1 k (wrap64 (x4 + 1)) x244000 x244001 x244002) else (some false))) else (none)) else (some true)
end
def ringroadref26_Fits.f (k : Nat) (a0_0 : Int) (l0_1 : List Int) (l0_2 : List Int) : Option (Bool) := (ringroadref26_in.f a0_0 0 255).bind fun t244 => (if t244 = true then (if (l0_1.length : Int) > 65535 then (ringroadref26_Fits.j0 k true a0_0 l0_1 l0_2) else (ringroadref26_Fits.j0 k (decide ((l0_2.length : Int) > 255)) a0_0 l0_1 l0_2)) else (ringroadref26_Fits.j0 k true a0_0 l0_1 l0_2))
theorem ringroadref26_Fits.mono_l : ∀ k, (∀ y0 y1 y2 y3, LeO (ringroadref26_Fits.j0 k y0 y1 y2 y3) (ringroadref26_Fits.j0 (k + 1) y0 y1 y2 y3)) ∧ (∀ y0 y1 y2 y3, LeO (ringroadref26_Fits.l0 k y0 y1 y2 y3) (ringroadref26_Fits.l0 (k + 1) y0 y1 y2 y3)) ∧ (∀ y0 y1 y2 y3, LeO (ringroadref26_Fits.l1 k y0 y1 y2 y3) (ringroadref26_Fits.l1 (k + 1) y0 y1 y2 y3))
 | 0 => ⟨fun _ _ _ _ r h => by simp [ringroadref26_Fits.j0] at h, fun _ _ _ _ r h => by simp [ringroadref26_Fits.l0] at h, fun _ _ _ _ r h => by simp [ringroadref26_Fits.l1] at h⟩
 | k + 1 => by
  obtain ⟨ih0, ih1, ih2⟩ := ringroadref26_Fits.mono_l k
  refine ⟨?_, ?_, ?_⟩
  ·
   intro y0 y1 y2 y3
   unfold ringroadref26_Fits.j0
   repeat' first
   | (with_reducible exact ih0 _ _ _ _)
   | (with_reducible exact ih1 _ _ _ _)
   | (with_reducible exact ih2 _ _ _ _)
   | (with_reducible exact LeO.refl _)
   | (with_reducible exact LeO.none _)
   | (with_reducible refine LeO.ite ?_ ?_)
   | (with_reducible refine LeO.bind ?_ (fun _ => ?_))
   | exact ih0 _ _ _ _
   | exact ih1 _ _ _ _
   | exact ih2 _ _ _ _
   | exact LeO.none _
   | refine LeO.ite ?_ ?_
   | refine LeO.bind ?_ (fun _ => ?_)
  ·
   intro y0 y1 y2 y3
   unfold ringroadref26_Fits.l0
   repeat' first
   | (with_reducible exact ih0 _ _ _ _)
   | (with_reducible exact ih1 _ _ _ _)
   | (with_reducible exact ih2 _ _ _ _)
   | (with_reducible exact LeO.refl _)
   | (with_reducible exact LeO.none _)
   | (with_reducible refine LeO.ite ?_ ?_)
   | (with_reducible refine LeO.bind ?_ (fun _ => ?_))
   | exact ih0 _ _ _ _
   | exact ih1 _ _ _ _
   | exact ih2 _ _ _ _
   | exact LeO.none _
   | refine LeO.ite ?_ ?_
   | refine LeO.bind ?_ (fun _ => ?_)
  ·
   intro y0 y1 y2 y3
   unfold ringroadref26_Fits.l1
   repeat' first
   | (with_reducible exact ih0 _ _ _ _)
   | (with_reducible exact ih1 _ _ _ _)
   | (with_reducible exact ih2 _ _ _ _)
   | (with_reducible exact LeO.refl _)
   | (with_reducible exact LeO.none _)
   | (with_reducible refine LeO.ite ?_ ?_)
   | (with_reducible refine LeO.bind ?_ (fun _ => ?_))
   | exact ih0 _ _ _ _
   | exact ih1 _ _ _ _
   | exact ih2 _ _ _ _
   | exact LeO.none _
   | refine LeO.ite ?_ ?_
   | refine LeO.bind ?_ (fun _ => ?_)
theorem ringroadref26_Fits.mono : ∀ a0 a1 a2 k, LeO (ringroadref26_Fits.f k a0 a1 a2) (ringroadref26_Fits.f (k + 1) a0 a1 a2) := by
 intro a0 a1 a2 k
 obtain ⟨ih0, ih1, ih2⟩ := ringroadref26_Fits.mono_l k
 unfold ringroadref26_Fits.f
 repeat' first
   | (with_reducible exact ih0 _ _ _ _)
   | (with_reducible exact ih1 _ _ _ _)
   | (with_reducible exact ih2 _ _ _ _)
   | (with_reducible exact LeO.refl _)
   | (with_reducible exact LeO.none _)
   | (with_reducible refine LeO.ite ?_ ?_)
   | (with_reducible refine LeO.bind ?_ (fun _ => ?_))
   | exact ih0 _ _ _ _
   | exact ih1 _ _ _ _
   | exact ih2 _ _ _ _
   | exact LeO.none _
   | refine LeO.ite ?_ ?_
   | refine LeO.bind ?_ (fun _ => ?_)
set_option maxHeartbeats 8000000 in
set_option maxRecDepth 100000 in
theorem ringroadref26_Fits.calls (k : Nat) (a0_0 : Int) (A0_1 : Option Addr) (c0_1 : Nat) (l0_1 : List Int) (A0_2 : Option Addr) (c0_2 : Nat) (l0_2 : List Int) (r : Bool) (w : World) (hr0_1 : Kd.C (Kd.int .i64) w A0_1 l0_1.length l0_1) (hc0_1 : l0_1.length ≤ c0_1) (hr0_2 : Kd.C (Kd.int .i64) w A0_2 l0_2.length l0_2) (hc0_2 : l0_2.length ≤ c0_2) (h : ringroadref26_Fits.f k a0_0 l0_1 l0_2 = some r) :
  Calls Tryd.prog 22 #[.agg #[.int .i64 a0_0, .slice A0_1 l0_1.length c0_1, .slice A0_2 l0_2.length c0_2]] w fun e w' => e = .returned (.bool r) ∧ Below w.heap.size w w' := by
 have hu49 := Tryd.underlying49
 have HR0_1 := Aside0.mk hr0_1
 have HC0_1 := Aside0.mk hc0_1
 clear hr0_1 hc0_1
 have HR0_2 := Aside0.mk hr0_2
 have HC0_2 := Aside0.mk hc0_2
 clear hr0_2 hc0_2
 have HB := Aside0.mk (Below.refl w.heap.size w)
 have H : ((ringroadref26_in.f a0_0 0 255).bind fun t244 => (if t244 = true then (if (l0_1.length : Int) > 65535 then (ringroadref26_Fits.j0 k true a0_0 l0_1 l0_2) else (ringroadref26_Fits.j0 k (decide ((l0_2.length : Int) > 255)) a0_0 l0_1 l0_2)) else (ringroadref26_Fits.j0 k true a0_0 l0_1 l0_2))) = some r := h
 clear h
 have HC2 := Aside0.mk H
 clear H
 go_enter Tryd.func22, Tryd.ntmps22
 go_upto_region 1 with (first | ((with_reducible refine gate_dst (N := 1) rfl ?_); (try (refine gate_guard (by rfl) ?_; dsimp only)); refine box_event ?hg (N := 1) ?hd (cs := #[.int .i64 a0_0, .slice A0_1 l0_1.length c0_1, .slice A0_2 l0_2.length c0_2]) (t := 49) ?hr ?_; (case hd => rfl); (case hg => rfl); (case hr => first | (go_simp; done) | (go_simp; rfl)); intro gb243 hg w3 hbox hb; have n0_ := Aside0.mk (below_step (by repeat (first | (with_reducible first | exact HB.out | apply below_alloc | apply pw_below_drewN | apply below_drew1) | exact HB.out)) hb); have n1_ := Aside0.mk (hbox); have n2_ := Aside0.mk ((by rw [hg]; exact (below_size (by repeat (first | (with_reducible first | exact HB.out | apply below_alloc | apply pw_below_drewN | apply below_drew1) | exact HB.out))) : w.heap.size ≤ gb243)); have n3_ := Aside0.mk ((by rw [hg]; exact (below_size (by repeat (first | (with_reducible first | exact HB.out | apply below_alloc | apply pw_below_drewN | apply below_drew1) | exact HB.out))) : w.heap.size ≤ gb243)); clear HB; have HB := n0_; have BK243 := n1_; have GW243 := n2_; have GE243 := n3_; clear n0_ n1_ n2_ n3_; clear hb hbox hg))
 (try simp only [Act.put, List.setIfInBounds_toArray, List.set_cons_zero, List.set_cons_succ])
 go_cut [20] (fun v20 wc => ∃ (kq : Nat) (x20_1 : Bool), v20 = .bool x20_1 ∧ Aside0 (ringroadref26_Fits.j0 kq x20_1 a0_0 l0_1 l0_2 = some r) ∧ Aside0 (kq ≤ k) ∧ Aside0 (wc.heap[gb243]? = some (.cells #[.int .i64 a0_0, (.slice A0_1 l0_1.length c0_1), (.slice A0_2 l0_2.length c0_2)] 49 (0, 0))) ∧ Aside0 (Below w.heap.size w wc))
 case first =>
  have H := HC2.out
  clear HC2
  replace H := Option.bind_eq_some_iff.mp H
  obtain ⟨t244, A40, H⟩ := H
  replace H : (if t244 = true then (if (l0_1.length : Int) > 65535 then (ringroadref26_Fits.j0 k true a0_0 l0_1 l0_2) else (ringroadref26_Fits.j0 k (decide ((l0_2.length : Int) > 255)) a0_0 l0_1 l0_2)) else (ringroadref26_Fits.j0 k true a0_0 l0_1 l0_2)) = some r := H
  have A4 := Aside0.mk A40
  clear A40
  by_cases c5 : t244 = true
  ·
   subst c5
   have H1 : (if (l0_1.length : Int) > 65535 then (ringroadref26_Fits.j0 k true a0_0 l0_1 l0_2) else (ringroadref26_Fits.j0 k (decide ((l0_2.length : Int) > 255)) a0_0 l0_1 l0_2)) = some r := by rw [if_pos rfl] at H; exact H
   clear H
   have H := H1
   clear H1
   by_cases c6 : (l0_1.length : Int) > 65535
   ·
    rw [if_pos c6] at H
    have c6b0 : decide (65535 < (l0_1.length : Int)) = true := decide_eq_true c6
    have c6b1 : decide (65535 < l0_1.length) = true := decide_eq_true (by omega)
    clear c6
    (first | rw [c6b0] | (simp only [i64_w, i32_w]; rw [c6b0]) | skip)
    have H' := Aside0.mk H
    clear H
    have hcz7_0 : w3.cell? ⟨gb243, 0, none⟩ = some (.int .i64 a0_0) := (blk_cell BK243.out 0).trans rfl
    have hcz7_1 : w3.cell? ⟨gb243, 1, none⟩ = some (.slice A0_1 l0_1.length c0_1) := (blk_cell BK243.out 1).trans rfl
    have hcz7_2 : w3.cell? ⟨gb243, 2, none⟩ = some (.slice A0_2 l0_2.length c0_2) := (blk_cell BK243.out 2).trans rfl
    have hfz7_0 := blk_frozen BK243.out 0
    have hfz7_1 := blk_frozen BK243.out 1
    have hfz7_2 := blk_frozen BK243.out 2
    go_wp2_with (first | ((with_reducible refine gate_callee (f := 25) rfl ?_); refine goesL_ (some 7) rfl rfl Tryd.func25 (by kernel_rfl) rfl #[.int .i64 a0_0, .int .i64 0, .int .i64 255] rfl (by (try simp only [List.map_toArray, List.map_cons, List.map_nil]); first | done | rfl | (simp only [List.length_drop, List.length_take]; rfl)) ?_; (with_reducible refine (ringroadref26_in.calls a0_0 0 255 true _ A4.out).mono ?_); rintro e w' ⟨rfl, ⟨nd, rfl⟩⟩; refine ⟨_, rfl, ?_⟩))
    go_meet
    case rel => exact ⟨_, (true), (by first | rfl | (simp; done) | (simp [*]; done)), H', ⟨by first | omega | exact Nat.le_refl _⟩, ⟨by (with_reducible repeat (first | refine blk_drewN ?_ _ | refine blk_drew ?_ | refine blk_alloc ?_ _)); exact BK243.out⟩, ⟨by repeat (first | (with_reducible first | exact HB.out | apply below_alloc | apply pw_below_drewN | apply below_drew1 | refine below_set ?_ GE243.out) | exact HB.out)⟩⟩
   ·
    rw [if_neg c6] at H
    have c6b0 : decide (65535 < (l0_1.length : Int)) = false := decide_eq_false c6
    have c6b1 : decide (65535 < l0_1.length) = false := decide_eq_false (by omega)
    clear c6
    (first | rw [c6b0] | (simp only [i64_w, i32_w]; rw [c6b0]) | skip)
    have H' := Aside0.mk H
    clear H
    have hcz8_0 : w3.cell? ⟨gb243, 0, none⟩ = some (.int .i64 a0_0) := (blk_cell BK243.out 0).trans rfl
    have hcz8_1 : w3.cell? ⟨gb243, 1, none⟩ = some (.slice A0_1 l0_1.length c0_1) := (blk_cell BK243.out 1).trans rfl
    have hcz8_2 : w3.cell? ⟨gb243, 2, none⟩ = some (.slice A0_2 l0_2.length c0_2) := (blk_cell BK243.out 2).trans rfl
    have hfz8_0 := blk_frozen BK243.out 0
    have hfz8_1 := blk_frozen BK243.out 1
    have hfz8_2 := blk_frozen BK243.out 2
    go_wp2_with (first | ((with_reducible refine gate_callee (f := 25) rfl ?_); refine goesL_ (some 7) rfl rfl Tryd.func25 (by kernel_rfl) rfl #[.int .i64 a0_0, .int .i64 0, .int .i64 255] rfl (by (try simp only [List.map_toArray, List.map_cons, List.map_nil]); first | done | rfl | (simp only [List.length_drop, List.length_take]; rfl)) ?_; (with_reducible refine (ringroadref26_in.calls a0_0 0 255 true _ A4.out).mono ?_); rintro e w' ⟨rfl, ⟨nd, rfl⟩⟩; refine ⟨_, rfl, ?_⟩))
    go_meet
    case rel => exact ⟨_, (decide ((l0_2.length : Int) > 255)), (by first | rfl | (simp; done) | (simp [*]; done)), H', ⟨by first | omega | exact Nat.le_refl _⟩, ⟨by (with_reducible repeat (first | refine blk_drewN ?_ _ | refine blk_drew ?_ | refine blk_alloc ?_ _)); exact BK243.out⟩, ⟨by repeat (first | (with_reducible first | exact HB.out | apply below_alloc | apply pw_below_drewN | apply below_drew1 | refine below_set ?_ GE243.out) | exact HB.out)⟩⟩
  ·
   replace c5 := Bool.eq_false_iff.mpr c5
   subst c5
   have H1 : (ringroadref26_Fits.j0 k true a0_0 l0_1 l0_2) = some r := by rw [if_neg (show ¬ (false = true) by decide)] at H; exact H
   clear H
   have H := H1
   clear H1
   have H' := Aside0.mk H
   clear H
   have hcz9_0 : w3.cell? ⟨gb243, 0, none⟩ = some (.int .i64 a0_0) := (blk_cell BK243.out 0).trans rfl
   have hcz9_1 : w3.cell? ⟨gb243, 1, none⟩ = some (.slice A0_1 l0_1.length c0_1) := (blk_cell BK243.out 1).trans rfl
   have hcz9_2 : w3.cell? ⟨gb243, 2, none⟩ = some (.slice A0_2 l0_2.length c0_2) := (blk_cell BK243.out 2).trans rfl
   have hfz9_0 := blk_frozen BK243.out 0
   have hfz9_1 := blk_frozen BK243.out 1
   have hfz9_2 := blk_frozen BK243.out 2
   go_wp2_with (first | ((with_reducible refine gate_callee (f := 25) rfl ?_); refine goesL_ (some 7) rfl rfl Tryd.func25 (by kernel_rfl) rfl #[.int .i64 a0_0, .int .i64 0, .int .i64 255] rfl (by (try simp only [List.map_toArray, List.map_cons, List.map_nil]); first | done | rfl | (simp only [List.length_drop, List.length_take]; rfl)) ?_; (with_reducible refine (ringroadref26_in.calls a0_0 0 255 false _ A4.out).mono ?_); rintro e w' ⟨rfl, ⟨nd, rfl⟩⟩; refine ⟨_, rfl, ?_⟩))
   go_meet
   case rel => exact ⟨_, (true), (by first | rfl | (simp; done) | (simp [*]; done)), H', ⟨by first | omega | exact Nat.le_refl _⟩, ⟨by (with_reducible repeat (first | refine blk_drewN ?_ _ | refine blk_drew ?_ | refine blk_alloc ?_ _)); exact BK243.out⟩, ⟨by repeat (first | (with_reducible first | exact HB.out | apply below_alloc | apply pw_below_drewN | apply below_drew1 | refine below_set ?_ GE243.out) | exact HB.out)⟩⟩
 case rest =>
  clear HC2
  try clear c2
  try clear p2
  try clear c5
  try clear c6
  try clear c6b0
  try clear c6b1
  try clear hcz7_0
  try clear hcz7_1
  try clear hcz7_2
  try clear hcz8_0
  try clear hcz8_1
  try clear hcz8_2
  try clear hcz9_0
  try clear hcz9_1
  try clear hcz9_2
  try clear hfz7_0
  try clear hfz7_1
  try clear hfz7_2
  try clear hfz8_0
  try clear hfz8_1
  try clear hfz8_2
  try clear hfz9_0
  try clear hfz9_1
  try clear hfz9_2
  obtain ⟨kq, x20_1, rfl, HA, HJ1, BK243, HB⟩ := hcut
  cases kq with
  | zero => exact absurd HA.out (by simp [ringroadref26_Fits.j0])
  | succ kj1 =>
   have H := HA.out
   clear HA
   simp only [ringroadref26_Fits.j0] at H
   by_cases c10 : x20_1 = true
   ·
    subst c10
    have H1 : (some false) = some r := by rw [if_pos rfl] at H; exact H
    clear H
    have H := H1
    clear H1
    obtain rfl := Option.some.inj H
    go_wp2
    go_ret
    exact ⟨by first | rfl | (simp [errW_none, errW_some] <;> rfl) | (simp [*, errW_none, errW_some] <;> rfl), by repeat (first | (with_reducible first | exact HB.out | apply below_alloc | apply pw_below_drewN | apply below_drew1 | refine below_set ?_ GE243.out) | exact HB.out)⟩
   ·
    replace c10 := Bool.eq_false_iff.mpr c10
    subst c10
    have H1 : (ringroadref26_Fits.l0 kj1 0 a0_0 l0_1 l0_2) = some r := by rw [if_neg (show ¬ (false = true) by decide)] at H; exact H
    clear H
    have H := H1
    clear H1
    have H' := Aside0.mk H
    clear H
    go_wp2
    go_loopg [3] kj1 (fun kq v3 w' => ∃ (x3_2 : Int), v3 = .int .i64 x3_2 ∧ Aside0 (ringroadref26_Fits.l0 kq x3_2 a0_0 l0_1 l0_2 = some r) ∧ Aside0 (kq ≤ kj1) ∧ Aside0 (w'.heap[gb243]? = some (.cells #[.int .i64 a0_0, (.slice A0_1 l0_1.length c0_1), (.slice A0_2 l0_2.length c0_2)] 49 (0, 0))) ∧ Aside0 (Below w.heap.size w w'))
    case atStart => exact ⟨(0), (by first | rfl | (simp; done) | (simp [*]; done)), H', ⟨Nat.le_refl _⟩, ⟨by (with_reducible repeat (first | refine blk_drewN ?_ _ | refine blk_drew ?_ | refine blk_alloc ?_ _)); exact BK243.out⟩, ⟨by repeat (first | (with_reducible first | exact HB.out | apply below_alloc | apply pw_below_drewN | apply below_drew1 | refine below_set ?_ GE243.out) | exact HB.out)⟩⟩
    case round =>
     clear H'
     try clear c1
     try clear c2
     try clear p2
     try clear c5
     try clear c6
     try clear c6b0
     try clear c6b1
     try clear c10
     try clear hcz7_0
     try clear hcz7_1
     try clear hcz7_2
     try clear hcz8_0
     try clear hcz8_1
     try clear hcz8_2
     try clear hcz9_0
     try clear hcz9_1
     try clear hcz9_2
     try clear hfz7_0
     try clear hfz7_1
     try clear hfz7_2
     try clear hfz8_0
     try clear hfz8_1
     try clear hfz8_2
     try clear hfz9_0
     try clear hfz9_1
     try clear hfz9_2
     try clear p2
     obtain ⟨x3_2, rfl, HA, HK2, BK243, HB⟩ := hrel
     cases gk with
     | zero => exact absurd HA.out (by simp [ringroadref26_Fits.l0])
     | succ k2 =>
      have H := HA.out
      clear HA
      simp only [ringroadref26_Fits.l0] at H
      by_cases c11 : x3_2 < (l0_1.length : Int)
      ·
       rw [if_pos c11] at H
       have c11b0 : decide (x3_2 < (l0_1.length : Int)) = true := decide_eq_true c11
       clear c11
       by_cases c12 : 0 ≤ x3_2
       ·
        rw [if_pos c12] at H
        have c12b0 : decide (0 ≤ x3_2) = true := decide_eq_true c12
        clear c12
        by_cases c13 : (rd l0_1 x3_2) < 0
        ·
         rw [if_pos c13] at H
         have c13b0 : decide ((rd l0_1 x3_2) < 0) = true := decide_eq_true c13
         clear c13
         obtain rfl := Option.some.inj H
         have hcz14_0 : wr.cell? ⟨gb243, 0, none⟩ = some (.int .i64 a0_0) := (blk_cell BK243.out 0).trans rfl
         have hcz14_1 : wr.cell? ⟨gb243, 1, none⟩ = some (.slice A0_1 l0_1.length c0_1) := (blk_cell BK243.out 1).trans rfl
         have hcz14_2 : wr.cell? ⟨gb243, 2, none⟩ = some (.slice A0_2 l0_2.length c0_2) := (blk_cell BK243.out 2).trans rfl
         have hfz14_0 := blk_frozen BK243.out 0
         have hfz14_1 := blk_frozen BK243.out 1
         have hfz14_2 := blk_frozen BK243.out 2
         have p245 : 0 ≤ (x3_2 : Int) := of_decide_eq_true (by first | (with_reducible assumption) | assumption)
         have q245 : x3_2 < (l0_1.length : Int) := of_decide_eq_true (by first | (with_reducible assumption) | assumption)
         obtain ⟨ad245, e245, hx245_0⟩ := Kd.at_int HR0_1.out x3_2 p245 q245
         cases e245
         replace hx245_0 := (HB.out.cell (World.block_lt_of_cell? w _ hx245_0)).trans hx245_0
         replace p245 := eq_true p245
         replace q245 := eq_true q245
         go_wp2
         go_ret
         exact ⟨by first | rfl | (simp [errW_none, errW_some] <;> rfl) | (simp [*, errW_none, errW_some] <;> rfl), by repeat (first | (with_reducible first | exact HB.out | apply below_alloc | apply pw_below_drewN | apply below_drew1 | refine below_set ?_ GE243.out) | exact HB.out)⟩
        ·
         rw [if_neg c13] at H
         have c13b0 : decide ((rd l0_1 x3_2) < 0) = false := decide_eq_false c13
         clear c13
         have H' := Aside0.mk H
         clear H
         have hcz15_0 : wr.cell? ⟨gb243, 0, none⟩ = some (.int .i64 a0_0) := (blk_cell BK243.out 0).trans rfl
         have hcz15_1 : wr.cell? ⟨gb243, 1, none⟩ = some (.slice A0_1 l0_1.length c0_1) := (blk_cell BK243.out 1).trans rfl
         have hcz15_2 : wr.cell? ⟨gb243, 2, none⟩ = some (.slice A0_2 l0_2.length c0_2) := (blk_cell BK243.out 2).trans rfl
         have hfz15_0 := blk_frozen BK243.out 0
         have hfz15_1 := blk_frozen BK243.out 1
         have hfz15_2 := blk_frozen BK243.out 2
         have p245 : 0 ≤ (x3_2 : Int) := of_decide_eq_true (by first | (with_reducible assumption) | assumption)
         have q245 : x3_2 < (l0_1.length : Int) := of_decide_eq_true (by first | (with_reducible assumption) | assumption)
         obtain ⟨ad245, e245, hx245_0⟩ := Kd.at_int HR0_1.out x3_2 p245 q245
         cases e245
         replace hx245_0 := (HB.out.cell (World.block_lt_of_cell? w _ hx245_0)).trans hx245_0
         replace p245 := eq_true p245
         replace q245 := eq_true q245
         go_wp2
         go_roundg k2
         case measure => have := HJ1.out; have := HK2.out; omega
         case rel => exact ⟨(wrap64 (x3_2 + 1)), (by first | rfl | (simp; done) | (simp [*]; done)), H', ⟨by have := HJ1.out; have := HK2.out; omega⟩, ⟨by (with_reducible repeat (first | refine blk_drewN ?_ _ | refine blk_drew ?_ | refine blk_alloc ?_ _)); exact BK243.out⟩, ⟨by repeat (first | (with_reducible first | exact HB.out | apply below_alloc | apply pw_below_drewN | apply below_drew1 | refine below_set ?_ GE243.out) | exact HB.out)⟩⟩
       ·
        rw [if_neg c12] at H
        exact absurd H (by simp)
      ·
       rw [if_neg c11] at H
       have c11b0 : decide (x3_2 < (l0_1.length : Int)) = false := decide_eq_false c11
       clear c11
       have H' := Aside0.mk H
       clear H
       have hcz16_0 : wr.cell? ⟨gb243, 0, none⟩ = some (.int .i64 a0_0) := (blk_cell BK243.out 0).trans rfl
       have hcz16_1 : wr.cell? ⟨gb243, 1, none⟩ = some (.slice A0_1 l0_1.length c0_1) := (blk_cell BK243.out 1).trans rfl
       have hcz16_2 : wr.cell? ⟨gb243, 2, none⟩ = some (.slice A0_2 l0_2.length c0_2) := (blk_cell BK243.out 2).trans rfl
       have hfz16_0 := blk_frozen BK243.out 0
       have hfz16_1 := blk_frozen BK243.out 1
       have hfz16_2 := blk_frozen BK243.out 2
       go_wp2
       go_loopg [4] k2 (fun kq v4 w' => ∃ (x4_3 : Int), v4 = .int .i64 x4_3 ∧ Aside0 (ringroadref26_Fits.l1 kq x4_3 a0_0 l0_1 l0_2 = some r) ∧ Aside0 (kq ≤ k2) ∧ Aside0 (w'.heap[gb243]? = some (.cells #[.int .i64 a0_0, (.slice A0_1 l0_1.length c0_1), (.slice A0_2 l0_2.length c0_2)] 49 (0, 0))) ∧ Aside0 (Below w.heap.size w w'))
       case atStart => exact ⟨(0), (by first | rfl | (simp; done) | (simp [*]; done)), H', ⟨Nat.le_refl _⟩, ⟨by (with_reducible repeat (first | refine blk_drewN ?_ _ | refine blk_drew ?_ | refine blk_alloc ?_ _)); exact BK243.out⟩, ⟨by repeat (first | (with_reducible first | exact HB.out | apply below_alloc | apply pw_below_drewN | apply below_drew1 | refine below_set ?_ GE243.out) | exact HB.out)⟩⟩
       case round =>
        clear H'
        try clear c1
        try clear c2
        try clear p2
        try clear q2
        try clear hx2
        try clear c5
        try clear c6
        try clear c6b0
        try clear c6b1
        try clear p6
        try clear c10
        try clear c11
        try clear c11b0
        try clear c12
        try clear c12b0
        try clear c13
        try clear c13b0
        try clear hcz14_0
        try clear hcz14_1
        try clear hcz14_2
        try clear hcz15_0
        try clear hcz15_1
        try clear hcz15_2
        try clear hcz16_0
        try clear hcz16_1
        try clear hcz16_2
        try clear hcz7_0
        try clear hcz7_1
        try clear hcz7_2
        try clear hcz8_0
        try clear hcz8_1
        try clear hcz8_2
        try clear hcz9_0
        try clear hcz9_1
        try clear hcz9_2
        try clear hfz14_0
        try clear hfz14_1
        try clear hfz14_2
        try clear hfz15_0
        try clear hfz15_1
        try clear hfz15_2
        try clear hfz16_0
        try clear hfz16_1
        try clear hfz16_2
        try clear hfz7_0
        try clear hfz7_1
        try clear hfz7_2
        try clear hfz8_0
        try clear hfz8_1
        try clear hfz8_2
        try clear hfz9_0
        try clear hfz9_1
        try clear hfz9_2
        try clear hx245_0
        try clear p2
        try clear p245
        try clear q245
        obtain ⟨x4_3, rfl, HA, HK3, BK243, HB⟩ := hrel
        cases gk with
        | zero => exact absurd HA.out (by simp [ringroadref26_Fits.l1])
        | succ k3 =>
         have H := HA.out
         clear HA
         simp only [ringroadref26_Fits.l1] at H
         by_cases c17 : x4_3 < (l0_2.length : Int)
         ·
          rw [if_pos c17] at H
          have c17b0 : decide (x4_3 < (l0_2.length : Int)) = true := decide_eq_true c17
          clear c17
          by_cases c18 : 0 ≤ x4_3
          ·
           rw [if_pos c18] at H
           have c18b0 : decide (0 ≤ x4_3) = true := decide_eq_true c18
           clear c18
           replace H := Option.bind_eq_some_iff.mp H
           obtain ⟨t247, A190, H⟩ := H
           replace H : (if t247 = true then (ringroadref26_Fits.l1 k3 (wrap64 (x4_3 + 1)) a0_0 l0_1 l0_2) else (some false)) = some r := H
           have A19 := Aside0.mk A190
           clear A190
           by_cases c20 : t247 = true
           ·
            subst c20
            have H1 : (ringroadref26_Fits.l1 k3 (wrap64 (x4_3 + 1)) a0_0 l0_1 l0_2) = some r := by rw [if_pos rfl] at H; exact H
            clear H
            have H := H1
            clear H1
            have H' := Aside0.mk H
            clear H
            have hcz21_0 : wr.cell? ⟨gb243, 0, none⟩ = some (.int .i64 a0_0) := (blk_cell BK243.out 0).trans rfl
            have hcz21_1 : wr.cell? ⟨gb243, 1, none⟩ = some (.slice A0_1 l0_1.length c0_1) := (blk_cell BK243.out 1).trans rfl
            have hcz21_2 : wr.cell? ⟨gb243, 2, none⟩ = some (.slice A0_2 l0_2.length c0_2) := (blk_cell BK243.out 2).trans rfl
            have hfz21_0 := blk_frozen BK243.out 0
            have hfz21_1 := blk_frozen BK243.out 1
            have hfz21_2 := blk_frozen BK243.out 2
            have p246 : 0 ≤ (x4_3 : Int) := of_decide_eq_true (by first | (with_reducible assumption) | assumption)
            have q246 : x4_3 < (l0_2.length : Int) := of_decide_eq_true (by first | (with_reducible assumption) | assumption)
            obtain ⟨ad246, e246, hx246_0⟩ := Kd.at_int HR0_2.out x4_3 p246 q246
            cases e246
            replace hx246_0 := (HB.out.cell (World.block_lt_of_cell? w _ hx246_0)).trans hx246_0
            replace p246 := eq_true p246
            replace q246 := eq_true q246
            go_wp2_with (first | ((with_reducible refine gate_callee (f := 25) rfl ?_); refine goesL_ (some 46) rfl rfl Tryd.func25 (by kernel_rfl) rfl #[.int .i64 (rd l0_2 x4_3), .int .i64 0, .int .i64 255] rfl (by (try simp only [List.map_toArray, List.map_cons, List.map_nil]); first | done | rfl | (simp only [List.length_drop, List.length_take]; rfl)) ?_; (with_reducible refine (ringroadref26_in.calls (rd l0_2 x4_3) 0 255 true _ A19.out).mono ?_); rintro e w' ⟨rfl, ⟨nd, rfl⟩⟩; refine ⟨_, rfl, ?_⟩))
            go_roundg k3
            case measure => have := HJ1.out; have := HK2.out; have := HK3.out; omega
            case rel => exact ⟨(wrap64 (x4_3 + 1)), (by first | rfl | (simp; done) | (simp [*]; done)), H', ⟨by have := HJ1.out; have := HK2.out; have := HK3.out; omega⟩, ⟨by (with_reducible repeat (first | refine blk_drewN ?_ _ | refine blk_drew ?_ | refine blk_alloc ?_ _)); exact BK243.out⟩, ⟨by repeat (first | (with_reducible first | exact HB.out | apply below_alloc | apply pw_below_drewN | apply below_drew1 | refine below_set ?_ GE243.out) | exact HB.out)⟩⟩
           ·
            replace c20 := Bool.eq_false_iff.mpr c20
            subst c20
            have H1 : (some false) = some r := by rw [if_neg (show ¬ (false = true) by decide)] at H; exact H
            clear H
            have H := H1
            clear H1
            obtain rfl := Option.some.inj H
            have hcz22_0 : wr.cell? ⟨gb243, 0, none⟩ = some (.int .i64 a0_0) := (blk_cell BK243.out 0).trans rfl
            have hcz22_1 : wr.cell? ⟨gb243, 1, none⟩ = some (.slice A0_1 l0_1.length c0_1) := (blk_cell BK243.out 1).trans rfl
            have hcz22_2 : wr.cell? ⟨gb243, 2, none⟩ = some (.slice A0_2 l0_2.length c0_2) := (blk_cell BK243.out 2).trans rfl
            have hfz22_0 := blk_frozen BK243.out 0
            have hfz22_1 := blk_frozen BK243.out 1
            have hfz22_2 := blk_frozen BK243.out 2
            have p246 : 0 ≤ (x4_3 : Int) := of_decide_eq_true (by first | (with_reducible assumption) | assumption)
            have q246 : x4_3 < (l0_2.length : Int) := of_decide_eq_true (by first | (with_reducible assumption) | assumption)
            obtain ⟨ad246, e246, hx246_0⟩ := Kd.at_int HR0_2.out x4_3 p246 q246
            cases e246
            replace hx246_0 := (HB.out.cell (World.block_lt_of_cell? w _ hx246_0)).trans hx246_0
            replace p246 := eq_true p246
            replace q246 := eq_true q246
            go_wp2_with (first | ((with_reducible refine gate_callee (f := 25) rfl ?_); refine goesL_ (some 46) rfl rfl Tryd.func25 (by kernel_rfl) rfl #[.int .i64 (rd l0_2 x4_3), .int .i64 0, .int .i64 255] rfl (by (try simp only [List.map_toArray, List.map_cons, List.map_nil]); first | done | rfl | (simp only [List.length_drop, List.length_take]; rfl)) ?_; (with_reducible refine (ringroadref26_in.calls (rd l0_2 x4_3) 0 255 false _ A19.out).mono ?_); rintro e w' ⟨rfl, ⟨nd, rfl⟩⟩; refine ⟨_, rfl, ?_⟩))
            go_ret
            exact ⟨by first | rfl | (simp [errW_none, errW_some] <;> rfl) | (simp [*, errW_none, errW_some] <;> rfl), by repeat (first | (with_reducible first | exact HB.out | apply below_alloc | apply pw_below_drewN | apply below_drew1 | refine below_set ?_ GE243.out) | exact HB.out)⟩
          ·
           rw [if_neg c18] at H
           exact absurd H (by simp)
         ·
          rw [if_neg c17] at H
          have c17b0 : decide (x4_3 < (l0_2.length : Int)) = false := decide_eq_false c17
          clear c17
          obtain rfl := Option.some.inj H
          have hcz23_0 : wr.cell? ⟨gb243, 0, none⟩ = some (.int .i64 a0_0) := (blk_cell BK243.out 0).trans rfl
          have hcz23_1 : wr.cell? ⟨gb243, 1, none⟩ = some (.slice A0_1 l0_1.length c0_1) := (blk_cell BK243.out 1).trans rfl
          have hcz23_2 : wr.cell? ⟨gb243, 2, none⟩ = some (.slice A0_2 l0_2.length c0_2) := (blk_cell BK243.out 2).trans rfl
          have hfz23_0 := blk_frozen BK243.out 0
          have hfz23_1 := blk_frozen BK243.out 1
          have hfz23_2 := blk_frozen BK243.out 2
          go_wp2
          go_ret
          exact ⟨by first | rfl | (simp [errW_none, errW_some] <;> rfl) | (simp [*, errW_none, errW_some] <;> rfl), by repeat (first | (with_reducible first | exact HB.out | apply below_alloc | apply pw_below_drewN | apply below_drew1 | refine below_set ?_ GE243.out) | exact HB.out)⟩
end Go.Proofs.YteapmebmgaggcaaDoor.PW

namespace Go.Proofs.YteapmebmgaggcaaDoor.PW
open Go.RowKit Go.Proofs.YteapmebmgaggcaaDoorW.PrintWords Go.Proofs.YteapmebmgaggcaaDoorW.PrintLast Go.Proofs.YteapmebmgaggcaaDoorW.PrintMore
attribute [local go_sem] max2_int min2_int max_two min_two max_three min_three max_four min_four   -- for this text's walks alone
set_option linter.unusedVariables false
set_option linter.unusedSimpArgs false

attribute [local go_sem high] eqA23 eqA30
/-! ### ringroadref26_Replies: function 24 -/
mutual
def ringroadref26_Replies.l0 : Nat → List (S49) → List Int → Int → Option (List Int)
 | 0, _, _, _ => none
 | k + 1, x0, x3, x4 => if x4 < (x0.length : Int) then (if 0 ≤ x4 then (if x3.length < 140737488355328 then ((ringroadref02_Put.f k (x3 ++ [((rd_T49 x0 x4).f0) % 256]) 2 (IntKind.u64.wrap ((((rd_T49 x0 x4).f1).length : Int)))).bind fun t292 => (ringroadref26_Replies.l1 k x0 t292 x4 0)) else (none)) else (none)) else (some x3)
def ringroadref26_Replies.l1 : Nat → List (S49) → List Int → Int → Int → Option (List Int)
 | 0, _, _, _, _ => none
 | k + 1, x0, x3, x4, x5 => if 0 ≤ x4 then (if x4 < (x0.length : Int) then (if x5 < (((rd_T49 x0 x4).f1).length : Int) then (if 0 ≤ x5 then ((ringroadref02_Put.f k x3 8 (IntKind.u64.wrap (rd ((rd_T49 x0 x4).f1) x5))).bind fun t298 => (ringroadref26_Replies.l1 k x0 t298 x4 (wrap64 (x5 + 1)))) else (none)) else (if x3.length < 140737488355328 then (ringroadref26_Replies.l2 k x0 (x3 ++ [((((rd_T49 x0 x4).f2).length : Int)) % 256]) x4 0) else (none))) else (none)) else (none)
def ringroadref26_Replies.l2 : Nat → List (S49) → List Int → Int → Int → Option (List Int)
 | 0, _, _, _, _ => none
 | k + 1, x0, x3, x4, x6 => if 0 ≤ x4 then (if x4 < (x0.length : Int) then (if x6 < (((rd_T49 x0 x4).f2).length : Int) then (if 0 ≤ x6 then (if x3.length < 140737488355328 then (ringroadref26_Replies.l2 k x0 (x3 ++ [(rd ((rd_T49 x0 x4).f2) x6) % 256]) x4 (wrap64 (x6 + 1))) else (none)) else (none)) else (ringroadref26_Replies.l0 k x0 x3 (wrap64 (x4 + 1)))) else (none)) else (none)
end
def ringroadref26_Replies.f (k : Nat) (l0 : List (S49)) : Option (List Int) := ringroadref26_Replies.l0 k l0 ([] : List Int) 0
theorem ringroadref26_Replies.mono_l : ∀ k, (∀ y0 y1 y2, LeO (ringroadref26_Replies.l0 k y0 y1 y2) (ringroadref26_Replies.l0 (k + 1) y0 y1 y2)) ∧ (∀ y0 y1 y2 y3, LeO (ringroadref26_Replies.l1 k y0 y1 y2 y3) (ringroadref26_Replies.l1 (k + 1) y0 y1 y2 y3)) ∧ (∀ y0 y1 y2 y3, LeO (ringroadref26_Replies.l2 k y0 y1 y2 y3) (ringroadref26_Replies.l2 (k + 1) y0 y1 y2 y3))
 | 0 => ⟨fun _ _ _ r h => by simp [ringroadref26_Replies.l0] at h, fun _ _ _ _ r h => by simp [ringroadref26_Replies.l1] at h, fun _ _ _ _ r h => by simp [ringroadref26_Replies.l2] at h⟩
 | k + 1 => by
  obtain ⟨ih0, ih1, ih2⟩ := ringroadref26_Replies.mono_l k
  refine ⟨?_, ?_, ?_⟩
  ·
   intro y0 y1 y2
   unfold ringroadref26_Replies.l0
   repeat' first
   | (with_reducible exact ih0 _ _ _)
   | (with_reducible exact ih1 _ _ _ _)
   | (with_reducible exact ih2 _ _ _ _)
   | (with_reducible exact ringroadref02_Put.mono _ _ _ _)
   | (with_reducible exact LeO.refl _)
   | (with_reducible exact LeO.none _)
   | (with_reducible refine LeO.ite ?_ ?_)
   | (with_reducible refine LeO.bind ?_ (fun _ => ?_))
   | exact ih0 _ _ _
   | exact ih1 _ _ _ _
   | exact ih2 _ _ _ _
   | exact ringroadref02_Put.mono _ _ _ _
   | exact LeO.none _
   | refine LeO.ite ?_ ?_
   | refine LeO.bind ?_ (fun _ => ?_)
  ·
   intro y0 y1 y2 y3
   unfold ringroadref26_Replies.l1
   repeat' first
   | (with_reducible exact ih0 _ _ _)
   | (with_reducible exact ih1 _ _ _ _)
   | (with_reducible exact ih2 _ _ _ _)
   | (with_reducible exact ringroadref02_Put.mono _ _ _ _)
   | (with_reducible exact LeO.refl _)
   | (with_reducible exact LeO.none _)
   | (with_reducible refine LeO.ite ?_ ?_)
   | (with_reducible refine LeO.bind ?_ (fun _ => ?_))
   | exact ih0 _ _ _
   | exact ih1 _ _ _ _
   | exact ih2 _ _ _ _
   | exact ringroadref02_Put.mono _ _ _ _
   | exact LeO.none _
   | refine LeO.ite ?_ ?_
   | refine LeO.bind ?_ (fun _ => ?_)
  ·
   intro y0 y1 y2 y3
   unfold ringroadref26_Replies.l2
   repeat' first
   | (with_reducible exact ih0 _ _ _)
   | (with_reducible exact ih1 _ _ _ _)
   | (with_reducible exact ih2 _ _ _ _)
   | (with_reducible exact ringroadref02_Put.mono _ _ _ _)
   | (with_reducible exact LeO.refl _)
   | (with_reducible exact LeO.none _)
   | (with_reducible refine LeO.ite ?_ ?_)
   | (with_reducible refine LeO.bind ?_ (fun _ => ?_))
   | exact ih0 _ _ _
   | exact ih1 _ _ _ _
   | exact ih2 _ _ _ _
   | exact ringroadref02_Put.mono _ _ _ _
   | exact LeO.none _
   | refine LeO.ite ?_ ?_
   | refine LeO.bind ?_ (fun _ => ?_)
theorem ringroadref26_Replies.mono : ∀ a0 k, LeO (ringroadref26_Replies.f k a0) (ringroadref26_Replies.f (k + 1) a0) := by
 intro a0 k
 obtain ⟨ih0, ih1, ih2⟩ := ringroadref26_Replies.mono_l k
 unfold ringroadref26_Replies.f
 repeat' first
   | (with_reducible exact ih0 _ _ _)
   | (with_reducible exact ih1 _ _ _ _)
   | (with_reducible exact ih2 _ _ _ _)
   | (with_reducible exact ringroadref02_Put.mono _ _ _ _)
   | (with_reducible exact LeO.refl _)
   | (with_reducible exact LeO.none _)
   | (with_reducible refine LeO.ite ?_ ?_)
   | (with_reducible refine LeO.bind ?_ (fun _ => ?_))
   | exact ih0 _ _ _
   | exact ih1 _ _ _ _
   | exact ih2 _ _ _ _
   | exact ringroadref02_Put.mono _ _ _ _
   | exact LeO.none _
   | refine LeO.ite ?_ ?_
   | refine LeO.bind ?_ (fun _ => ?_)
set_option maxHeartbeats 8000000 in
set_option maxRecDepth 100000 in
theorem ringroadref26_Replies.calls (k : Nat) (A0 : Option Addr) (c0 : Nat) (l0 : List (S49)) (r : List Int) (w : World) (hr0 : Kd.C k49 w A0 l0.length l0) (hc0 : l0.length ≤ c0) (h : ringroadref26_Replies.f k l0 = some r) :
  Calls Tryd.prog 24 #[.slice A0 l0.length c0] w fun e w' => ∃ v0_ : Value, e = .returned (v0_) ∧ Kd.R (Kd.int .u8) 5 w' w.heap.size (fun _ => True) v0_ r ∧ Below w.heap.size w w' := by
 have HR0 := Aside0.mk hr0
 have HC0 := Aside0.mk hc0
 clear hr0 hc0
 have HB := Aside0.mk (Below.refl w.heap.size w)
 have H : (ringroadref26_Replies.l0 k l0 ([] : List Int) 0) = some r := h
 clear h
 have H' := Aside0.mk H
 clear H
 go_enter Tryd.func24, Tryd.ntmps24
 go_wp2
 go_loopg [3, 4] k (fun kq v3 v4 w' => ∃ (x3_1 : List Int) (x4_1 : Int), v4 = .int .i64 x4_1 ∧ Aside0 (ringroadref26_Replies.l0 kq l0 x3_1 x4_1 = some r) ∧ Aside0 (kq ≤ k) ∧ Aside0 (Kd.R (Kd.int .u8) 5 w' w.heap.size (fun _ => True) v3 x3_1) ∧ Aside0 (Below w.heap.size w w'))
 case atStart => exact ⟨(([] : List Int)), (0), (by first | rfl | (simp; done) | (simp [*]; done)), H', ⟨Nat.le_refl _⟩, ⟨by first | exact Kd.R_nil _ _ _ _ _ | exact Kd.N_nil _ _ _ _ _ | exact Kd.V_nil _ _ _ _ _ | exact Kd.Q_nil _ _ _ _ _ | exact Kd.S_nil _ _ _ _ _⟩, ⟨by repeat (first | (with_reducible first | exact HB.out | apply below_alloc | apply pw_below_drewN | apply below_drew1) | exact HB.out)⟩⟩
 case round =>
  clear H'
  obtain ⟨x3_1, x4_1, rfl, HA, HK1, HO_3, HB⟩ := hrel
  cases gk with
  | zero => exact absurd HA.out (by simp [ringroadref26_Replies.l0])
  | succ k1 =>
   have H := HA.out
   clear HA
   simp only [ringroadref26_Replies.l0] at H
   by_cases c2 : x4_1 < (l0.length : Int)
   ·
    rw [if_pos c2] at H
    have c2b0 : decide (x4_1 < (l0.length : Int)) = true := decide_eq_true c2
    clear c2
    by_cases c3 : 0 ≤ x4_1
    ·
     rw [if_pos c3] at H
     have c3b0 : decide (0 ≤ x4_1) = true := decide_eq_true c3
     clear c3
     by_cases c4 : x3_1.length < 140737488355328
     ·
      rw [if_pos c4] at H
      have LMc4 := Aside0.mk c4
      clear c4
      obtain ⟨y288, hy288⟩ : ∃ y_ : List Int, y_ = (x3_1 ++ [((rd_T49 l0 x4_1).f0) % 256]) := ⟨_, rfl⟩
      replace H : ((ringroadref02_Put.f k1 y288 2 (IntKind.u64.wrap ((((rd_T49 l0 x4_1).f1).length : Int)))).bind fun t292 => (ringroadref26_Replies.l1 k1 l0 t292 x4_1 0)) = some r := by first | (rw [hy288]; with_reducible exact H) | (have H2_ := (Option.bind_some _ _).symm.trans H; rw [hy288]; with_reducible exact H2_) | (have H2_ := (Option.bind_some _ _).symm.trans H; with_reducible exact H2_) | with_reducible exact H | (rw [hy288]; exact H) | exact H
      have Ny288 := Aside0.mk hy288
      clear hy288
      replace H := Option.bind_eq_some_iff.mp H
      obtain ⟨t292, A50, H⟩ := H
      replace H : (ringroadref26_Replies.l1 k1 l0 t292 x4_1 0) = some r := H
      have A5 := Aside0.mk A50
      clear A50
      have H' := Aside0.mk H
      clear H
      have p287 : 0 ≤ (x4_1 : Int) := of_decide_eq_true (by first | (with_reducible assumption) | assumption)
      have q287 : x4_1 < (l0.length : Int) := of_decide_eq_true (by first | (with_reducible assumption) | assumption)
      obtain ⟨ad287, A287_1, c287_1, A287_2, c287_2, e287, hx287_0, hx287_1, hx287_2, hl287_1, hi287_1, hl287_2, hi287_2⟩ := at_T49 HR0.out x4_1 p287 q287
      cases e287
      replace hx287_0 := (HB.out.cell (World.block_lt_of_cell? w _ hx287_0)).trans hx287_0
      replace hx287_1 := (HB.out.cell (World.block_lt_of_cell? w _ hx287_1)).trans hx287_1
      replace hx287_2 := (HB.out.cell (World.block_lt_of_cell? w _ hx287_2)).trans hx287_2
      have HR287_1 := Aside0.mk hi287_1
      have HC287_1 := Aside0.mk hl287_1
      clear hi287_1 hl287_1
      have HR287_2 := Aside0.mk hi287_2
      have HC287_2 := Aside0.mk hl287_2
      clear hi287_2 hl287_2
      replace p287 := eq_true p287
      replace q287 := eq_true q287
      go_wp2_with (first | ((with_reducible refine gate_builtin (b := .append) (xs := #[.tmp 13, .tmp 20]) rfl ?_); at_builtin; refine Kd.R_append (Kd.int .u8) (w0 := w) w.heap.size rfl (.tmp 13) (.tmp 20) 31 5 (.int .u8 0) 1 rfl Tryd.underlying31 info5 rfl (by decide) (by omega) u3 x3_1 (((rd_T49 l0 x4_1).f0) % 256) [.int .u8 (((rd_T49 l0 x4_1).f0) % 256)] (fun _ => True) (fun _ => False) rfl rfl ?aP (fun _ hk => hk.elim) ?aF ?aO ?aB ?aS ?aL ?_; (case aP => exact rfl); (case aB => exact (by repeat (first | (with_reducible first | exact HB.out | apply below_alloc | apply pw_below_drewN | apply below_drew1) | exact HB.out))); (case aF => exact (fun _ _ => trivial)); (case aO => exact (by (with_reducible repeat (first | apply Kd.R_alloc | apply Kd.R_drewN | apply Kd.R_drew)); exact HO_3.out)); (case aS => exact (below_size (by repeat (first | (with_reducible first | exact HB.out | apply below_alloc | apply pw_below_drewN | apply below_drew1) | exact HB.out)))); (case aL => have := LMc4.out; omega); intro v289 w6 ho hb hg hat; rw [← Ny288.out] at ho; have n0_ := Aside0.mk (hb); have n1_ := Aside0.mk (ho); clear HB; clear HO_3; have HB := n0_; have HO290 := n1_; clear n0_ n1_; clear ho hb hg hat; have p291 : 0 ≤ (x4_1 : Int) := of_decide_eq_true (by first | (with_reducible assumption) | assumption); have q291 : x4_1 < (l0.length : Int) := of_decide_eq_true (by first | (with_reducible assumption) | assumption); obtain ⟨ad291, A291_1, c291_1, A291_2, c291_2, e291, hx291_0, hx291_1, hx291_2, hl291_1, hi291_1, hl291_2, hi291_2⟩ := at_T49 HR0.out x4_1 p291 q291; obtain rfl : ad287 = ad291 := (by injection e291); replace hx291_0 := (HB.out.cell (World.block_lt_of_cell? w _ hx291_0)).trans hx291_0; replace hx291_1 := (HB.out.cell (World.block_lt_of_cell? w _ hx291_1)).trans hx291_1; replace hx291_2 := (HB.out.cell (World.block_lt_of_cell? w _ hx291_2)).trans hx291_2; have HR291_1 := Aside0.mk hi291_1; have HC291_1 := Aside0.mk hl291_1; clear hi291_1 hl291_1; have HR291_2 := Aside0.mk hi291_2; have HC291_2 := Aside0.mk hl291_2; clear hi291_2 hl291_2; replace p291 := eq_true p291; replace q291 := eq_true q291; obtain ⟨Ao7, co7, eo7⟩ := Kd.R_slice HO290.out; subst eo7) | ((with_reducible refine gate_callee (f := 40) rfl ?_); refine goesL_ (some 30) rfl rfl Tryd.func40 (by kernel_rfl) rfl #[.slice Ao7 y288.length co7, .int .i64 2, .int .u64 (IntKind.u64.wrap ((((rd_T49 l0 x4_1).f1).length : Int)))] rfl (by (try simp only [List.map_toArray, List.map_cons, List.map_nil]); first | done | rfl | (simp only [List.length_drop, List.length_take]; rfl)) ?_; (with_reducible refine (ringroadref02_Put.calls k1 _ _ y288 2 (IntKind.u64.wrap ((((rd_T49 l0 x4_1).f1).length : Int))) t292 _ ?side1 ?side2 A5.out).mono ?_); (case side1 => repeat (first | exact (Kd.R_reads' HO290.out).2.2 | (with_reducible refine Kd.C_alloc ?_ _) | (with_reducible refine Kd.C_drewN ?_ _) | (with_reducible refine Kd.C_drew ?_))); (case side2 => exact (Kd.R_reads' HO290.out).2.1); rintro e w8 ⟨v293, rfl, ho0, hb⟩; refine ⟨_, rfl, ?_⟩; have n0_ := Aside0.mk (Kd.R_elder' (by (with_reducible repeat (first | apply Kd.R_alloc | apply Kd.R_drewN | apply Kd.R_drew)); exact HO290.out) (Kd.R_base ho0) hb); have n1_ := Aside0.mk (Kd.R_lower (Kd.R_new' ho0 (Kd.R_lt (by (with_reducible repeat (first | apply Kd.R_alloc | apply Kd.R_drewN | apply Kd.R_drew)); exact HO290.out))) (below_size (by repeat (first | (with_reducible first | exact HB.out | apply below_alloc | apply pw_below_drewN | apply below_drew1) | exact HB.out)))); have n2_ := Aside0.mk (below_step (by repeat (first | (with_reducible first | exact HB.out | apply below_alloc | apply pw_below_drewN | apply below_drew1) | exact HB.out)) hb); clear HO290; clear HB; have HO290 := n0_; have HO294 := n1_; have HB := n2_; clear n0_ n1_ n2_; (try clear hb); (try clear hb2); (try clear hk); (try clear hi); (try clear ho0)))
      go_loopg [3, 5] k1 (fun kq v3 v5 w' => ∃ (x3_2 : List Int) (x5_2 : Int), v5 = .int .i64 x5_2 ∧ Aside0 (ringroadref26_Replies.l1 kq l0 x3_2 x4_1 x5_2 = some r) ∧ Aside0 (kq ≤ k1) ∧ Aside0 (Kd.R (Kd.int .u8) 5 w' w.heap.size (fun _ => True) v3 x3_2) ∧ Aside0 (Below w.heap.size w w'))
      case atStart => exact ⟨(t292), (0), (by first | rfl | (simp; done) | (simp [*]; done)), H', ⟨Nat.le_refl _⟩, ⟨by (with_reducible repeat (first | apply Kd.R_alloc | apply Kd.R_drewN | apply Kd.R_drew)); exact Kd.R_mono HO294.out (fun _ hk => trivial)⟩, ⟨by repeat (first | (with_reducible first | exact HB.out | apply below_alloc | apply pw_below_drewN | apply below_drew1) | exact HB.out)⟩⟩
      case round =>
       clear H'
       try clear c2
       try clear c2b0
       try clear p2
       try clear q2
       try clear hx2
       try clear c3
       try clear c3b0
       try clear c4
       try clear hx287_0
       try clear hx287_1
       try clear hx287_2
       try clear hx291_0
       try clear hx291_1
       try clear hx291_2
       try clear p287
       try clear p291
       try clear q287
       try clear q291
       obtain ⟨x3_2, x5_2, rfl, HA, HK2, HO_3, HB⟩ := hrel
       cases gk with
       | zero => exact absurd HA.out (by simp [ringroadref26_Replies.l1])
       | succ k2 =>
        have H := HA.out
        clear HA
        simp only [ringroadref26_Replies.l1] at H
        by_cases c9 : 0 ≤ x4_1
        ·
         rw [if_pos c9] at H
         have c9b0 : decide (0 ≤ x4_1) = true := decide_eq_true c9
         clear c9
         by_cases c10 : x4_1 < (l0.length : Int)
         ·
          rw [if_pos c10] at H
          have c10b0 : decide (x4_1 < (l0.length : Int)) = true := decide_eq_true c10
          clear c10
          by_cases c11 : x5_2 < (((rd_T49 l0 x4_1).f1).length : Int)
          ·
           rw [if_pos c11] at H
           have c11b0 : decide (x5_2 < (((rd_T49 l0 x4_1).f1).length : Int)) = true := decide_eq_true c11
           clear c11
           by_cases c12 : 0 ≤ x5_2
           ·
            rw [if_pos c12] at H
            have c12b0 : decide (0 ≤ x5_2) = true := decide_eq_true c12
            clear c12
            replace H := Option.bind_eq_some_iff.mp H
            obtain ⟨t298, A130, H⟩ := H
            replace H : (ringroadref26_Replies.l1 k2 l0 t298 x4_1 (wrap64 (x5_2 + 1))) = some r := H
            have A13 := Aside0.mk A130
            clear A130
            have H' := Aside0.mk H
            clear H
            have p295 : 0 ≤ (x4_1 : Int) := of_decide_eq_true (by first | (with_reducible assumption) | assumption)
            have q295 : x4_1 < (l0.length : Int) := of_decide_eq_true (by first | (with_reducible assumption) | assumption)
            obtain ⟨ad295, A295_1, c295_1, A295_2, c295_2, e295, hx295_0, hx295_1, hx295_2, hl295_1, hi295_1, hl295_2, hi295_2⟩ := at_T49 HR0.out x4_1 p295 q295
            obtain rfl : ad287 = ad295 := (by injection e295)
            replace hx295_0 := (HB.out.cell (World.block_lt_of_cell? w _ hx295_0)).trans hx295_0
            replace hx295_1 := (HB.out.cell (World.block_lt_of_cell? w _ hx295_1)).trans hx295_1
            replace hx295_2 := (HB.out.cell (World.block_lt_of_cell? w _ hx295_2)).trans hx295_2
            have HR295_1 := Aside0.mk hi295_1
            have HC295_1 := Aside0.mk hl295_1
            clear hi295_1 hl295_1
            have HR295_2 := Aside0.mk hi295_2
            have HC295_2 := Aside0.mk hl295_2
            clear hi295_2 hl295_2
            replace p295 := eq_true p295
            replace q295 := eq_true q295
            have p296 : 0 ≤ (x4_1 : Int) := of_decide_eq_true (by first | (with_reducible assumption) | assumption)
            have q296 : x4_1 < (l0.length : Int) := of_decide_eq_true (by first | (with_reducible assumption) | assumption)
            obtain ⟨ad296, A296_1, c296_1, A296_2, c296_2, e296, hx296_0, hx296_1, hx296_2, hl296_1, hi296_1, hl296_2, hi296_2⟩ := at_T49 HR0.out x4_1 p296 q296
            obtain rfl : ad287 = ad296 := (by injection e296)
            replace hx296_0 := (HB.out.cell (World.block_lt_of_cell? w _ hx296_0)).trans hx296_0
            replace hx296_1 := (HB.out.cell (World.block_lt_of_cell? w _ hx296_1)).trans hx296_1
            replace hx296_2 := (HB.out.cell (World.block_lt_of_cell? w _ hx296_2)).trans hx296_2
            have HR296_1 := Aside0.mk hi296_1
            have HC296_1 := Aside0.mk hl296_1
            clear hi296_1 hl296_1
            have HR296_2 := Aside0.mk hi296_2
            have HC296_2 := Aside0.mk hl296_2
            clear hi296_2 hl296_2
            replace p296 := eq_true p296
            replace q296 := eq_true q296
            have ea_ := Option.some.inj (hx295_1.symm.trans hx296_1)
            injection ea_ with ea_ en_ ec_
            subst ea_
            subst ec_
            clear en_
            have ea_ := Option.some.inj (hx295_2.symm.trans hx296_2)
            injection ea_ with ea_ en_ ec_
            subst ea_
            subst ec_
            clear en_
            have p297 : 0 ≤ (x5_2 : Int) := of_decide_eq_true (by first | (with_reducible assumption) | assumption)
            have q297 : x5_2 < (((rd_T49 l0 x4_1).f1).length : Int) := of_decide_eq_true (by first | (with_reducible assumption) | assumption)
            obtain ⟨ad297, e297, hx297_0⟩ := Kd.at_int HR296_1.out x5_2 p297 q297
            cases e297
            replace hx297_0 := (HB.out.cell (World.block_lt_of_cell? w _ hx297_0)).trans hx297_0
            replace p297 := eq_true p297
            replace q297 := eq_true q297
            obtain ⟨Ao14, co14, eo14⟩ := Kd.R_slice HO_3.out
            subst eo14
            go_wp2_with (first | ((with_reducible refine gate_callee (f := 40) rfl ?_); refine goesL_ (some 51) rfl rfl Tryd.func40 (by kernel_rfl) rfl #[.slice Ao14 x3_2.length co14, .int .i64 8, .int .u64 (IntKind.u64.wrap (rd ((rd_T49 l0 x4_1).f1) x5_2))] rfl (by (try simp only [List.map_toArray, List.map_cons, List.map_nil]); first | done | rfl | (simp only [List.length_drop, List.length_take]; rfl)) ?_; (with_reducible refine (ringroadref02_Put.calls k2 _ _ x3_2 8 (IntKind.u64.wrap (rd ((rd_T49 l0 x4_1).f1) x5_2)) t298 _ ?side1 ?side2 A13.out).mono ?_); (case side1 => repeat (first | exact (Kd.R_reads' HO_3.out).2.2 | (with_reducible refine Kd.C_alloc ?_ _) | (with_reducible refine Kd.C_drewN ?_ _) | (with_reducible refine Kd.C_drew ?_))); (case side2 => exact (Kd.R_reads' HO_3.out).2.1); rintro e w15 ⟨v299, rfl, ho0, hb⟩; refine ⟨_, rfl, ?_⟩; have n0_ := Aside0.mk (Kd.R_elder' (by (with_reducible repeat (first | apply Kd.R_alloc | apply Kd.R_drewN | apply Kd.R_drew)); exact HO_3.out) (Kd.R_base ho0) hb); have n1_ := Aside0.mk (Kd.R_lower (Kd.R_new' ho0 (Kd.R_lt (by (with_reducible repeat (first | apply Kd.R_alloc | apply Kd.R_drewN | apply Kd.R_drew)); exact HO_3.out))) (below_size (by repeat (first | (with_reducible first | exact HB.out | apply below_alloc | apply pw_below_drewN | apply below_drew1) | exact HB.out)))); have n2_ := Aside0.mk (below_step (by repeat (first | (with_reducible first | exact HB.out | apply below_alloc | apply pw_below_drewN | apply below_drew1) | exact HB.out)) hb); clear HO_3; clear HB; have HO_3 := n0_; have HO300 := n1_; have HB := n2_; clear n0_ n1_ n2_; (try clear hb); (try clear hb2); (try clear hk); (try clear hi); (try clear ho0)))
            go_roundg k2
            case measure => have := HK1.out; have := HK2.out; omega
            case rel => exact ⟨(t298), (wrap64 (x5_2 + 1)), (by first | rfl | (simp; done) | (simp [*]; done)), H', ⟨by have := HK1.out; have := HK2.out; omega⟩, ⟨by (with_reducible repeat (first | apply Kd.R_alloc | apply Kd.R_drewN | apply Kd.R_drew)); exact Kd.R_mono HO300.out (fun _ hk => trivial)⟩, ⟨by repeat (first | (with_reducible first | exact HB.out | apply below_alloc | apply pw_below_drewN | apply below_drew1) | exact HB.out)⟩⟩
           ·
            rw [if_neg c12] at H
            exact absurd H (by simp)
          ·
           rw [if_neg c11] at H
           have c11b0 : decide (x5_2 < (((rd_T49 l0 x4_1).f1).length : Int)) = false := decide_eq_false c11
           clear c11
           by_cases c16 : x3_2.length < 140737488355328
           ·
            rw [if_pos c16] at H
            have LMc16 := Aside0.mk c16
            clear c16
            obtain ⟨y302, hy302⟩ : ∃ y_ : List Int, y_ = (x3_2 ++ [((((rd_T49 l0 x4_1).f2).length : Int)) % 256]) := ⟨_, rfl⟩
            replace H : (ringroadref26_Replies.l2 k2 l0 y302 x4_1 0) = some r := by first | (rw [hy302]; with_reducible exact H) | (have H2_ := (Option.bind_some _ _).symm.trans H; rw [hy302]; with_reducible exact H2_) | (have H2_ := (Option.bind_some _ _).symm.trans H; with_reducible exact H2_) | with_reducible exact H | (rw [hy302]; exact H) | exact H
            have Ny302 := Aside0.mk hy302
            clear hy302
            have H' := Aside0.mk H
            clear H
            have p295 : 0 ≤ (x4_1 : Int) := of_decide_eq_true (by first | (with_reducible assumption) | assumption)
            have q295 : x4_1 < (l0.length : Int) := of_decide_eq_true (by first | (with_reducible assumption) | assumption)
            obtain ⟨ad295, A295_1, c295_1, A295_2, c295_2, e295, hx295_0, hx295_1, hx295_2, hl295_1, hi295_1, hl295_2, hi295_2⟩ := at_T49 HR0.out x4_1 p295 q295
            obtain rfl : ad287 = ad295 := (by injection e295)
            replace hx295_0 := (HB.out.cell (World.block_lt_of_cell? w _ hx295_0)).trans hx295_0
            replace hx295_1 := (HB.out.cell (World.block_lt_of_cell? w _ hx295_1)).trans hx295_1
            replace hx295_2 := (HB.out.cell (World.block_lt_of_cell? w _ hx295_2)).trans hx295_2
            have HR295_1 := Aside0.mk hi295_1
            have HC295_1 := Aside0.mk hl295_1
            clear hi295_1 hl295_1
            have HR295_2 := Aside0.mk hi295_2
            have HC295_2 := Aside0.mk hl295_2
            clear hi295_2 hl295_2
            replace p295 := eq_true p295
            replace q295 := eq_true q295
            have p301 : 0 ≤ (x4_1 : Int) := of_decide_eq_true (by first | (with_reducible assumption) | assumption)
            have q301 : x4_1 < (l0.length : Int) := of_decide_eq_true (by first | (with_reducible assumption) | assumption)
            obtain ⟨ad301, A301_1, c301_1, A301_2, c301_2, e301, hx301_0, hx301_1, hx301_2, hl301_1, hi301_1, hl301_2, hi301_2⟩ := at_T49 HR0.out x4_1 p301 q301
            obtain rfl : ad287 = ad301 := (by injection e301)
            replace hx301_0 := (HB.out.cell (World.block_lt_of_cell? w _ hx301_0)).trans hx301_0
            replace hx301_1 := (HB.out.cell (World.block_lt_of_cell? w _ hx301_1)).trans hx301_1
            replace hx301_2 := (HB.out.cell (World.block_lt_of_cell? w _ hx301_2)).trans hx301_2
            have HR301_1 := Aside0.mk hi301_1
            have HC301_1 := Aside0.mk hl301_1
            clear hi301_1 hl301_1
            have HR301_2 := Aside0.mk hi301_2
            have HC301_2 := Aside0.mk hl301_2
            clear hi301_2 hl301_2
            replace p301 := eq_true p301
            replace q301 := eq_true q301
            have ea_ := Option.some.inj (hx295_1.symm.trans hx301_1)
            injection ea_ with ea_ en_ ec_
            subst ea_
            subst ec_
            clear en_
            have ea_ := Option.some.inj (hx295_2.symm.trans hx301_2)
            injection ea_ with ea_ en_ ec_
            subst ea_
            subst ec_
            clear en_
            go_wp2_with (first | ((with_reducible refine gate_builtin (b := .append) (xs := #[.tmp 52, .tmp 60]) rfl ?_); at_builtin; refine Kd.R_append (Kd.int .u8) (w0 := w) w.heap.size rfl (.tmp 52) (.tmp 60) 31 5 (.int .u8 0) 1 rfl Tryd.underlying31 info5 rfl (by decide) (by omega) u3 x3_2 (((((rd_T49 l0 x4_1).f2).length : Int)) % 256) [.int .u8 (((((rd_T49 l0 x4_1).f2).length : Int)) % 256)] (fun _ => True) (fun _ => False) rfl rfl ?aP (fun _ hk => hk.elim) ?aF ?aO ?aB ?aS ?aL ?_; (case aP => exact rfl); (case aB => exact (by repeat (first | (with_reducible first | exact HB.out | apply below_alloc | apply pw_below_drewN | apply below_drew1) | exact HB.out))); (case aF => exact (fun _ _ => trivial)); (case aO => exact (by (with_reducible repeat (first | apply Kd.R_alloc | apply Kd.R_drewN | apply Kd.R_drew)); exact HO_3.out)); (case aS => exact (below_size (by repeat (first | (with_reducible first | exact HB.out | apply below_alloc | apply pw_below_drewN | apply below_drew1) | exact HB.out)))); (case aL => have := LMc16.out; omega); intro v303 w17 ho hb hg hat; rw [← Ny302.out] at ho; have n0_ := Aside0.mk (hb); have n1_ := Aside0.mk (ho); clear HB; clear HO_3; have HB := n0_; have HO304 := n1_; clear n0_ n1_; clear ho hb hg hat))
            go_loopg [3, 6] k2 (fun kq v3 v6 w' => ∃ (x3_3 : List Int) (x6_3 : Int), v6 = .int .i64 x6_3 ∧ Aside0 (ringroadref26_Replies.l2 kq l0 x3_3 x4_1 x6_3 = some r) ∧ Aside0 (kq ≤ k2) ∧ Aside0 (Kd.R (Kd.int .u8) 5 w' w.heap.size (fun _ => True) v3 x3_3) ∧ Aside0 (Below w.heap.size w w'))
            case atStart => exact ⟨(y302), (0), (by first | rfl | (simp; done) | (simp [*]; done)), H', ⟨Nat.le_refl _⟩, ⟨by (with_reducible repeat (first | apply Kd.R_alloc | apply Kd.R_drewN | apply Kd.R_drew)); exact HO304.out⟩, ⟨by repeat (first | (with_reducible first | exact HB.out | apply below_alloc | apply pw_below_drewN | apply below_drew1) | exact HB.out)⟩⟩
            case round =>
             clear H'
             try clear c1
             try clear c2
             try clear c2b0
             try clear p2
             try clear q2
             try clear hx2
             try clear c3
             try clear c3b0
             try clear p3
             try clear q3
             try clear hx3
             try clear c4
             try clear p6
             try clear c9
             try clear c9b0
             try clear c10
             try clear c10b0
             try clear c11
             try clear c11b0
             try clear c12
             try clear c12b0
             try clear c16
             try clear hx287_0
             try clear hx287_1
             try clear hx287_2
             try clear hx291_0
             try clear hx291_1
             try clear hx291_2
             try clear hx295_0
             try clear hx295_1
             try clear hx295_2
             try clear hx296_0
             try clear hx296_1
             try clear hx296_2
             try clear hx297_0
             try clear hx301_0
             try clear hx301_1
             try clear hx301_2
             try clear p2
             try clear p287
             try clear p291
             try clear p295
             try clear p296
             try clear p297
             try clear p301
             try clear q2
             try clear q287
             try clear q291
             try clear q295
             try clear q296
             try clear q297
             try clear q301
             obtain ⟨x3_3, x6_3, rfl, HA, HK3, HO_3, HB⟩ := hrel
             cases gk with
             | zero => exact absurd HA.out (by simp [ringroadref26_Replies.l2])
             | succ k3 =>
              have H := HA.out
              clear HA
              simp only [ringroadref26_Replies.l2] at H
              by_cases c18 : 0 ≤ x4_1
              ·
               rw [if_pos c18] at H
               have c18b0 : decide (0 ≤ x4_1) = true := decide_eq_true c18
               clear c18
               by_cases c19 : x4_1 < (l0.length : Int)
               ·
                rw [if_pos c19] at H
                have c19b0 : decide (x4_1 < (l0.length : Int)) = true := decide_eq_true c19
                clear c19
                by_cases c20 : x6_3 < (((rd_T49 l0 x4_1).f2).length : Int)
                ·
                 rw [if_pos c20] at H
                 have c20b0 : decide (x6_3 < (((rd_T49 l0 x4_1).f2).length : Int)) = true := decide_eq_true c20
                 clear c20
                 by_cases c21 : 0 ≤ x6_3
                 ·
                  rw [if_pos c21] at H
                  have c21b0 : decide (0 ≤ x6_3) = true := decide_eq_true c21
                  clear c21
                  by_cases c22 : x3_3.length < 140737488355328
                  ·
                   rw [if_pos c22] at H
                   have LMc22 := Aside0.mk c22
                   clear c22
                   obtain ⟨y308, hy308⟩ : ∃ y_ : List Int, y_ = (x3_3 ++ [(rd ((rd_T49 l0 x4_1).f2) x6_3) % 256]) := ⟨_, rfl⟩
                   replace H : (ringroadref26_Replies.l2 k3 l0 y308 x4_1 (wrap64 (x6_3 + 1))) = some r := by first | (rw [hy308]; with_reducible exact H) | (have H2_ := (Option.bind_some _ _).symm.trans H; rw [hy308]; with_reducible exact H2_) | (have H2_ := (Option.bind_some _ _).symm.trans H; with_reducible exact H2_) | with_reducible exact H | (rw [hy308]; exact H) | exact H
                   have Ny308 := Aside0.mk hy308
                   clear hy308
                   have H' := Aside0.mk H
                   clear H
                   have p305 : 0 ≤ (x4_1 : Int) := of_decide_eq_true (by first | (with_reducible assumption) | assumption)
                   have q305 : x4_1 < (l0.length : Int) := of_decide_eq_true (by first | (with_reducible assumption) | assumption)
                   obtain ⟨ad305, A305_1, c305_1, A305_2, c305_2, e305, hx305_0, hx305_1, hx305_2, hl305_1, hi305_1, hl305_2, hi305_2⟩ := at_T49 HR0.out x4_1 p305 q305
                   obtain rfl : ad287 = ad305 := (by injection e305)
                   replace hx305_0 := (HB.out.cell (World.block_lt_of_cell? w _ hx305_0)).trans hx305_0
                   replace hx305_1 := (HB.out.cell (World.block_lt_of_cell? w _ hx305_1)).trans hx305_1
                   replace hx305_2 := (HB.out.cell (World.block_lt_of_cell? w _ hx305_2)).trans hx305_2
                   have HR305_1 := Aside0.mk hi305_1
                   have HC305_1 := Aside0.mk hl305_1
                   clear hi305_1 hl305_1
                   have HR305_2 := Aside0.mk hi305_2
                   have HC305_2 := Aside0.mk hl305_2
                   clear hi305_2 hl305_2
                   replace p305 := eq_true p305
                   replace q305 := eq_true q305
                   have p306 : 0 ≤ (x4_1 : Int) := of_decide_eq_true (by first | (with_reducible assumption) | assumption)
                   have q306 : x4_1 < (l0.length : Int) := of_decide_eq_true (by first | (with_reducible assumption) | assumption)
                   obtain ⟨ad306, A306_1, c306_1, A306_2, c306_2, e306, hx306_0, hx306_1, hx306_2, hl306_1, hi306_1, hl306_2, hi306_2⟩ := at_T49 HR0.out x4_1 p306 q306
                   obtain rfl : ad287 = ad306 := (by injection e306)
                   replace hx306_0 := (HB.out.cell (World.block_lt_of_cell? w _ hx306_0)).trans hx306_0
                   replace hx306_1 := (HB.out.cell (World.block_lt_of_cell? w _ hx306_1)).trans hx306_1
                   replace hx306_2 := (HB.out.cell (World.block_lt_of_cell? w _ hx306_2)).trans hx306_2
                   have HR306_1 := Aside0.mk hi306_1
                   have HC306_1 := Aside0.mk hl306_1
                   clear hi306_1 hl306_1
                   have HR306_2 := Aside0.mk hi306_2
                   have HC306_2 := Aside0.mk hl306_2
                   clear hi306_2 hl306_2
                   replace p306 := eq_true p306
                   replace q306 := eq_true q306
                   have ea_ := Option.some.inj (hx305_1.symm.trans hx306_1)
                   injection ea_ with ea_ en_ ec_
                   subst ea_
                   subst ec_
                   clear en_
                   have ea_ := Option.some.inj (hx305_2.symm.trans hx306_2)
                   injection ea_ with ea_ en_ ec_
                   subst ea_
                   subst ec_
                   clear en_
                   have p307 : 0 ≤ (x6_3 : Int) := of_decide_eq_true (by first | (with_reducible assumption) | assumption)
                   have q307 : x6_3 < (((rd_T49 l0 x4_1).f2).length : Int) := of_decide_eq_true (by first | (with_reducible assumption) | assumption)
                   obtain ⟨ad307, e307, hx307_0⟩ := Kd.at_int HR306_2.out x6_3 p307 q307
                   cases e307
                   replace hx307_0 := (HB.out.cell (World.block_lt_of_cell? w _ hx307_0)).trans hx307_0
                   replace p307 := eq_true p307
                   replace q307 := eq_true q307
                   go_wp2_with (first | ((with_reducible refine gate_builtin (b := .append) (xs := #[.tmp 72, .tmp 82]) rfl ?_); at_builtin; refine Kd.R_append (Kd.int .u8) (w0 := w) w.heap.size rfl (.tmp 72) (.tmp 82) 31 5 (.int .u8 0) 1 rfl Tryd.underlying31 info5 rfl (by decide) (by omega) u3 x3_3 ((rd ((rd_T49 l0 x4_1).f2) x6_3) % 256) [.int .u8 ((rd ((rd_T49 l0 x4_1).f2) x6_3) % 256)] (fun _ => True) (fun _ => False) rfl rfl ?aP (fun _ hk => hk.elim) ?aF ?aO ?aB ?aS ?aL ?_; (case aP => exact rfl); (case aB => exact (by repeat (first | (with_reducible first | exact HB.out | apply below_alloc | apply pw_below_drewN | apply below_drew1) | exact HB.out))); (case aF => exact (fun _ _ => trivial)); (case aO => exact (by (with_reducible repeat (first | apply Kd.R_alloc | apply Kd.R_drewN | apply Kd.R_drew)); exact HO_3.out)); (case aS => exact (below_size (by repeat (first | (with_reducible first | exact HB.out | apply below_alloc | apply pw_below_drewN | apply below_drew1) | exact HB.out)))); (case aL => have := LMc22.out; omega); intro v309 w23 ho hb hg hat; rw [← Ny308.out] at ho; have n0_ := Aside0.mk (hb); have n1_ := Aside0.mk (ho); clear HB; clear HO_3; have HB := n0_; have HO310 := n1_; clear n0_ n1_; clear ho hb hg hat))
                   go_roundg k3
                   case measure => have := HK1.out; have := HK2.out; have := HK3.out; omega
                   case rel => exact ⟨(y308), (wrap64 (x6_3 + 1)), (by first | rfl | (simp; done) | (simp [*]; done)), H', ⟨by have := HK1.out; have := HK2.out; have := HK3.out; omega⟩, ⟨by (with_reducible repeat (first | apply Kd.R_alloc | apply Kd.R_drewN | apply Kd.R_drew)); exact HO310.out⟩, ⟨by repeat (first | (with_reducible first | exact HB.out | apply below_alloc | apply pw_below_drewN | apply below_drew1) | exact HB.out)⟩⟩
                  ·
                   rw [if_neg c22] at H
                   exact absurd H (by simp)
                 ·
                  rw [if_neg c21] at H
                  exact absurd H (by simp)
                ·
                 rw [if_neg c20] at H
                 have c20b0 : decide (x6_3 < (((rd_T49 l0 x4_1).f2).length : Int)) = false := decide_eq_false c20
                 clear c20
                 have H' := Aside0.mk H
                 clear H
                 have p305 : 0 ≤ (x4_1 : Int) := of_decide_eq_true (by first | (with_reducible assumption) | assumption)
                 have q305 : x4_1 < (l0.length : Int) := of_decide_eq_true (by first | (with_reducible assumption) | assumption)
                 obtain ⟨ad305, A305_1, c305_1, A305_2, c305_2, e305, hx305_0, hx305_1, hx305_2, hl305_1, hi305_1, hl305_2, hi305_2⟩ := at_T49 HR0.out x4_1 p305 q305
                 obtain rfl : ad287 = ad305 := (by injection e305)
                 replace hx305_0 := (HB.out.cell (World.block_lt_of_cell? w _ hx305_0)).trans hx305_0
                 replace hx305_1 := (HB.out.cell (World.block_lt_of_cell? w _ hx305_1)).trans hx305_1
                 replace hx305_2 := (HB.out.cell (World.block_lt_of_cell? w _ hx305_2)).trans hx305_2
                 have HR305_1 := Aside0.mk hi305_1
                 have HC305_1 := Aside0.mk hl305_1
                 clear hi305_1 hl305_1
                 have HR305_2 := Aside0.mk hi305_2
                 have HC305_2 := Aside0.mk hl305_2
                 clear hi305_2 hl305_2
                 replace p305 := eq_true p305
                 replace q305 := eq_true q305
                 go_wp2
                 go_roundg k3
                 case measure => have := HK1.out; have := HK2.out; have := HK3.out; omega
                 case rel => exact ⟨(x3_3), (wrap64 (x4_1 + 1)), (by first | rfl | (simp; done) | (simp [*]; done)), H', ⟨by have := HK1.out; have := HK2.out; have := HK3.out; omega⟩, ⟨by (with_reducible repeat (first | apply Kd.R_alloc | apply Kd.R_drewN | apply Kd.R_drew)); exact HO_3.out⟩, ⟨by repeat (first | (with_reducible first | exact HB.out | apply below_alloc | apply pw_below_drewN | apply below_drew1) | exact HB.out)⟩⟩
               ·
                rw [if_neg c19] at H
                exact absurd H (by simp)
              ·
               rw [if_neg c18] at H
               exact absurd H (by simp)
           ·
            rw [if_neg c16] at H
            exact absurd H (by simp)
         ·
          rw [if_neg c10] at H
          exact absurd H (by simp)
        ·
         rw [if_neg c9] at H
         exact absurd H (by simp)
     ·
      rw [if_neg c4] at H
      exact absurd H (by simp)
    ·
     rw [if_neg c3] at H
     exact absurd H (by simp)
   ·
    rw [if_neg c2] at H
    have c2b0 : decide (x4_1 < (l0.length : Int)) = false := decide_eq_false c2
    clear c2
    obtain rfl := Option.some.inj H
    go_wp2
    go_ret
    exact ⟨_, by first | rfl | (simp [errW_none, errW_some] <;> rfl) | (simp [*, errW_none, errW_some] <;> rfl), by (with_reducible repeat (first | apply Kd.R_alloc | apply Kd.R_drewN | apply Kd.R_drew)); exact HO_3.out, by repeat (first | (with_reducible first | exact HB.out | apply below_alloc | apply pw_below_drewN | apply below_drew1) | exact HB.out)⟩
end Go.Proofs.YteapmebmgaggcaaDoor.PW

namespace Go.Proofs.YteapmebmgaggcaaDoor.PW
open Go.RowKit Go.Proofs.YteapmebmgaggcaaDoorW.PrintWords Go.Proofs.YteapmebmgaggcaaDoorW.PrintLast Go.Proofs.YteapmebmgaggcaaDoorW.PrintMore
attribute [local go_sem] max2_int min2_int max_two min_two max_three min_three max_four min_four   -- for this text's walks alone
set_option linter.unusedVariables false
set_option linter.unusedSimpArgs false

attribute [local go_sem high] eqA23 eqA30
/-! ### ringroadref01_Ints: function 38 -/
def ringroadref01_Ints.l0 : Nat → List Int → List Int → Int → Option (Bool)
 | 0, _, _, _ => none
 | k + 1, x0, x1, x5 => if x5 < (x0.length : Int) then (if 0 ≤ x5 then (if x5 < (x1.length : Int) then (if (rd x0 x5) = (rd x1 x5) then (ringroadref01_Ints.l0 k x0 x1 (wrap64 (x5 + 1))) else (some false)) else (none)) else (none)) else (some true)
def ringroadref01_Ints.f (k : Nat) (l0 : List Int) (l1 : List Int) : Option (Bool) := if (l0.length : Int) = (l1.length : Int) then (ringroadref01_Ints.l0 k l0 l1 0) else (some false)
theorem ringroadref01_Ints.mono_l : ∀ k, (∀ y0 y1 y2, LeO (ringroadref01_Ints.l0 k y0 y1 y2) (ringroadref01_Ints.l0 (k + 1) y0 y1 y2))
 | 0 => fun _ _ _ r h => by simp [ringroadref01_Ints.l0] at h
 | k + 1 => by
  have ih0 := ringroadref01_Ints.mono_l k
  ·
   intro y0 y1 y2
   unfold ringroadref01_Ints.l0
   repeat' first
   | (with_reducible exact ih0 _ _ _)
   | (with_reducible exact LeO.refl _)
   | (with_reducible exact LeO.none _)
   | (with_reducible refine LeO.ite ?_ ?_)
   | (with_reducible refine LeO.bind ?_ (fun _ => ?_))
   | exact ih0 _ _ _
   | exact LeO.none _
   | refine LeO.ite ?_ ?_
   | refine LeO.bind ?_ (fun _ => ?_)
theorem ringroadref01_Ints.mono : ∀ a0 a1 k, LeO (ringroadref01_Ints.f k a0 a1) (ringroadref01_Ints.f (k + 1) a0 a1) := by
 intro a0 a1 k
 have ih0 := ringroadref01_Ints.mono_l k
 unfold ringroadref01_Ints.f
 repeat' first
   | (with_reducible exact ih0 _ _ _)
   | (with_reducible exact LeO.refl _)
   | (with_reducible exact LeO.none _)
   | (with_reducible refine LeO.ite ?_ ?_)
   | (with_reducible refine LeO.bind ?_ (fun _ => ?_))
   | exact ih0 _ _ _
   | exact LeO.none _
   | refine LeO.ite ?_ ?_
   | refine LeO.bind ?_ (fun _ => ?_)
set_option maxHeartbeats 8000000 in
set_option maxRecDepth 100000 in
theorem ringroadref01_Ints.calls (k : Nat) (A0 : Option Addr) (c0 : Nat) (l0 : List Int) (A1 : Option Addr) (c1 : Nat) (l1 : List Int) (r : Bool) (w : World) (hr0 : Kd.C (Kd.int .i64) w A0 l0.length l0) (hc0 : l0.length ≤ c0) (hr1 : Kd.C (Kd.int .i64) w A1 l1.length l1) (hc1 : l1.length ≤ c1) (h : ringroadref01_Ints.f k l0 l1 = some r) :
  Calls Tryd.prog 38 #[.slice A0 l0.length c0, .slice A1 l1.length c1] w fun e w' => e = .returned (.bool r) ∧ Drawn0 w w' := by
 have HR0 := Aside0.mk hr0
 have HC0 := Aside0.mk hc0
 clear hr0 hc0
 have HR1 := Aside0.mk hr1
 have HC1 := Aside0.mk hc1
 clear hr1 hc1
 have H : (if (l0.length : Int) = (l1.length : Int) then (ringroadref01_Ints.l0 k l0 l1 0) else (some false)) = some r := h
 clear h
 by_cases c3 : (l0.length : Int) = (l1.length : Int)
 ·
  rw [if_pos c3] at H
  have c3b0 : ((l0.length : Int) == (l1.length : Int)) = true := beq_iff_eq.mpr c3
  have c3b1 : ((l0.length : Int) != (l1.length : Int)) = false := bne_eq_false_iff_eq.mpr c3
  have c3b2 : (l0.length == l1.length) = true := by first | simpa using c3 | (simp at c3 ⊢; omega)
  clear c3
  have H' := Aside0.mk H
  clear H
  go_enter Tryd.func38, Tryd.ntmps38
  go_wp2
  repeat (go_quiet (fail); try go_wp2)
  go_loopg [5] k (fun kq v5 w' => ∃ (x5_1 : Int), v5 = .int .i64 x5_1 ∧ Aside0 (ringroadref01_Ints.l0 kq l0 l1 x5_1 = some r) ∧ Aside0 (kq ≤ k) ∧ Drawn0 w w')
  case atStart => exact ⟨(0), (by first | rfl | (simp; done) | (simp [*]; done)), H', ⟨Nat.le_refl _⟩, by repeat (first | exact Drawn0.refl _ | apply Drawn0.step)⟩
  case round =>
   clear H'
   try clear c1
   try clear p2
   try clear c3
   try clear c3b0
   try clear c3b1
   try clear c3b2
   obtain ⟨x5_1, rfl, HA, HK1, ⟨m1, rfl⟩⟩ := hrel
   cases gk with
   | zero => exact absurd HA.out (by simp [ringroadref01_Ints.l0])
   | succ k1 =>
    have H := HA.out
    clear HA
    simp only [ringroadref01_Ints.l0] at H
    by_cases c4 : x5_1 < (l0.length : Int)
    ·
     rw [if_pos c4] at H
     have c4b0 : decide (x5_1 < (l0.length : Int)) = true := decide_eq_true c4
     clear c4
     by_cases c5 : 0 ≤ x5_1
     ·
      rw [if_pos c5] at H
      have c5b0 : decide (0 ≤ x5_1) = true := decide_eq_true c5
      clear c5
      by_cases c6 : x5_1 < (l1.length : Int)
      ·
       rw [if_pos c6] at H
       have c6b0 : decide (x5_1 < (l1.length : Int)) = true := decide_eq_true c6
       clear c6
       by_cases c7 : (rd l0 x5_1) = (rd l1 x5_1)
       ·
        rw [if_pos c7] at H
        have c7b0 : ((rd l0 x5_1) == (rd l1 x5_1)) = true := beq_iff_eq.mpr c7
        have c7b1 : ((rd l0 x5_1) != (rd l1 x5_1)) = false := bne_eq_false_iff_eq.mpr c7
        clear c7
        have H' := Aside0.mk H
        clear H
        have p263 : 0 ≤ (x5_1 : Int) := of_decide_eq_true (by first | (with_reducible assumption) | assumption)
        have q263 : x5_1 < (l0.length : Int) := of_decide_eq_true (by first | (with_reducible assumption) | assumption)
        obtain ⟨ad263, e263, hx263_0⟩ := Kd.at_int HR0.out x5_1 p263 q263
        cases e263
        replace p263 := eq_true p263
        replace q263 := eq_true q263
        have p264 : 0 ≤ (x5_1 : Int) := of_decide_eq_true (by first | (with_reducible assumption) | assumption)
        have q264 : x5_1 < (l1.length : Int) := of_decide_eq_true (by first | (with_reducible assumption) | assumption)
        obtain ⟨ad264, e264, hx264_0⟩ := Kd.at_int HR1.out x5_1 p264 q264
        cases e264
        replace p264 := eq_true p264
        replace q264 := eq_true q264
        go_wp2
        repeat (go_quiet (fail); try go_wp2)
        go_roundg k1
        case measure => have := HK1.out; omega
        case rel => exact ⟨(wrap64 (x5_1 + 1)), (by first | rfl | (simp; done) | (simp [*]; done)), H', ⟨by have := HK1.out; omega⟩, by repeat (first | exact Drawn0.refl _ | apply Drawn0.step)⟩
       ·
        rw [if_neg c7] at H
        have c7b0 : ((rd l0 x5_1) == (rd l1 x5_1)) = false := beq_eq_false_iff_ne.mpr c7
        have c7b1 : ((rd l0 x5_1) != (rd l1 x5_1)) = true := bne_iff_ne.mpr c7
        obtain rfl := Option.some.inj H
        have p263 : 0 ≤ (x5_1 : Int) := of_decide_eq_true (by first | (with_reducible assumption) | assumption)
        have q263 : x5_1 < (l0.length : Int) := of_decide_eq_true (by first | (with_reducible assumption) | assumption)
        obtain ⟨ad263, e263, hx263_0⟩ := Kd.at_int HR0.out x5_1 p263 q263
        cases e263
        replace p263 := eq_true p263
        replace q263 := eq_true q263
        have p264 : 0 ≤ (x5_1 : Int) := of_decide_eq_true (by first | (with_reducible assumption) | assumption)
        have q264 : x5_1 < (l1.length : Int) := of_decide_eq_true (by first | (with_reducible assumption) | assumption)
        obtain ⟨ad264, e264, hx264_0⟩ := Kd.at_int HR1.out x5_1 p264 q264
        cases e264
        replace p264 := eq_true p264
        replace q264 := eq_true q264
        go_wp2
        repeat (go_quiet (fail); try go_wp2)
        go_ret
        exact ⟨by first | rfl | (simp; done) | (simp [*]; done), by repeat (first | exact Drawn0.refl _ | apply Drawn0.step)⟩
      ·
       rw [if_neg c6] at H
       exact absurd H (by simp)
     ·
      rw [if_neg c5] at H
      exact absurd H (by simp)
    ·
     rw [if_neg c4] at H
     have c4b0 : decide (x5_1 < (l0.length : Int)) = false := decide_eq_false c4
     clear c4
     obtain rfl := Option.some.inj H
     go_wp2
     repeat (go_quiet (fail); try go_wp2)
     go_ret
     exact ⟨by first | rfl | (simp; done) | (simp [*]; done), by repeat (first | exact Drawn0.refl _ | apply Drawn0.step)⟩
 ·
  rw [if_neg c3] at H
  have c3b0 : ((l0.length : Int) == (l1.length : Int)) = false := beq_eq_false_iff_ne.mpr c3
  have c3b1 : ((l0.length : Int) != (l1.length : Int)) = true := bne_iff_ne.mpr c3
  have c3b2 : (l0.length == l1.length) = false := by first | simpa using c3 | (simp at c3 ⊢; omega)
  obtain rfl := Option.some.inj H
  go_enter Tryd.func38, Tryd.ntmps38
  go_wp2
  repeat (go_quiet (fail); try go_wp2)
  go_ret
  exact ⟨by first | rfl | (simp; done) | (simp [*]; done), by repeat (first | exact Drawn0.refl _ | apply Drawn0.step)⟩
/-! ### ringroadlaw26_Replies: function 21 -/
def ringroadlaw26_Replies.l0 : Nat → List (S49) → List (S49) → Int → Option (Bool)
 | 0, _, _, _ => none
 | k + 1, x0, x1, x5 => if x5 < (x0.length : Int) then (if 0 ≤ x5 then (if x5 < (x1.length : Int) then (if ((rd_T49 x0 x5).f0) = ((rd_T49 x1 x5).f0) then ((ringroadref01_Ints.f k ((rd_T49 x0 x5).f1) ((rd_T49 x1 x5).f1)).bind fun t269 => (if t269 = true then ((ringroadref01_Ints.f k ((rd_T49 x0 x5).f2) ((rd_T49 x1 x5).f2)).bind fun t272 => (if t272 = true then (ringroadlaw26_Replies.l0 k x0 x1 (wrap64 (x5 + 1))) else (some false))) else (some false))) else (some false)) else (none)) else (none)) else (some true)
def ringroadlaw26_Replies.f (k : Nat) (l0 : List (S49)) (l1 : List (S49)) : Option (Bool) := if (l0.length : Int) = (l1.length : Int) then (ringroadlaw26_Replies.l0 k l0 l1 0) else (some false)
theorem ringroadlaw26_Replies.mono_l : ∀ k, (∀ y0 y1 y2, LeO (ringroadlaw26_Replies.l0 k y0 y1 y2) (ringroadlaw26_Replies.l0 (k + 1) y0 y1 y2))
 | 0 => fun _ _ _ r h => by simp [ringroadlaw26_Replies.l0] at h
 | k + 1 => by
  have ih0 := ringroadlaw26_Replies.mono_l k
  ·
   intro y0 y1 y2
   unfold ringroadlaw26_Replies.l0
   repeat' first
   | (with_reducible exact ih0 _ _ _)
   | (with_reducible exact ringroadref01_Ints.mono _ _ _)
   | (with_reducible exact LeO.refl _)
   | (with_reducible exact LeO.none _)
   | (with_reducible refine LeO.ite ?_ ?_)
   | (with_reducible refine LeO.bind ?_ (fun _ => ?_))
   | exact ih0 _ _ _
   | exact ringroadref01_Ints.mono _ _ _
   | exact LeO.none _
   | refine LeO.ite ?_ ?_
   | refine LeO.bind ?_ (fun _ => ?_)
theorem ringroadlaw26_Replies.mono : ∀ a0 a1 k, LeO (ringroadlaw26_Replies.f k a0 a1) (ringroadlaw26_Replies.f (k + 1) a0 a1) := by
 intro a0 a1 k
 have ih0 := ringroadlaw26_Replies.mono_l k
 unfold ringroadlaw26_Replies.f
 repeat' first
   | (with_reducible exact ih0 _ _ _)
   | (with_reducible exact ringroadref01_Ints.mono _ _ _)
   | (with_reducible exact LeO.refl _)
   | (with_reducible exact LeO.none _)
   | (with_reducible refine LeO.ite ?_ ?_)
   | (with_reducible refine LeO.bind ?_ (fun _ => ?_))
   | exact ih0 _ _ _
   | exact ringroadref01_Ints.mono _ _ _
   | exact LeO.none _
   | refine LeO.ite ?_ ?_
   | refine LeO.bind ?_ (fun _ => ?_)
def ringroadlaw26_Replies.T6 : Bool × List (List Nat × List Nat) := (true, [([], []), ([], []), ([0, 1], [0, 1]), ([2], [2]), ([3], [3]), ([], []), ([], []), ([5, 6], [5, 6]), ([7], [7]), ([8], [8]), ([4, 9], [4, 9]), ([10], [10]), ([11], [11]), ([11], [11]), ([12, 13, 11], [11, 12, 13]), ([14, 11], [11, 14]), ([15, 11], [11, 15]), ([11], [11]), ([11], [11]), ([17, 18, 11], [11, 17, 18]), ([19, 11], [11, 19]), ([20, 11], [11, 20]), ([16, 21, 11, 11], [11, 16, 21]), ([22, 11], [11, 22]), ([11, 23], [11, 23]), ([24, 22], [24]), ([25], [25]), ([25], [25]), ([26, 27, 25], [25, 26, 27]), ([28, 25], [25, 28]), ([29, 25], [25, 29]), ([25], [25]), ([25], [25]), ([31, 32, 25], [25, 31, 32]), ([33, 25], [25, 33]), ([34, 25], [25, 34]), ([30, 35, 25, 25], [25, 30, 35]), ([36, 25], [25, 36]), ([25, 37], [25, 37])])
def ringroadlaw26_Replies.B6 : List Nat := [0, 0, 3, 7, 15, 0, 0, 96, 224, 480, 1023, 2047, 4095, 4095, 16383, 32767, 65535, 4095, 4095, 397311, 921599, 1970175, 4194303, 8388607, 16777215, 33554431, 67108863, 67108863, 268435455, 536870911, 1073741823, 67108863, 67108863, 6509559807, 15099494399, 32279363583, 68719476735, 137438953471, 274877906943]
theorem ringroadlaw26_Replies.tab6 : rtab .any (opsOf Tryd.f21 6) = ringroadlaw26_Replies.T6 := by kernel_rfl
theorem ringroadlaw26_Replies.bits6 : waitsOk ringroadlaw26_Replies.T6.2 ringroadlaw26_Replies.B6 = true := by kernel_rfl
set_option maxHeartbeats 8000000 in
set_option maxRecDepth 100000 in
theorem ringroadlaw26_Replies.calls (k : Nat) (A0 : Option Addr) (c0 : Nat) (l0 : List (S49)) (A1 : Option Addr) (c1 : Nat) (l1 : List (S49)) (r : Bool) (hr : r = true) (w : World) (hr0 : Kd.C k49 w A0 l0.length l0) (hc0 : l0.length ≤ c0) (hr1 : Kd.C k49 w A1 l1.length l1) (hc1 : l1.length ≤ c1) (h : ringroadlaw26_Replies.f k l0 l1 = some r) :
  Calls Tryd.prog 21 #[.slice A0 l0.length c0, .slice A1 l1.length c1] w fun e w' => e = .returned (.bool r) ∧ Below w.heap.size w w' := by
 have HR0 := Aside0.mk hr0
 have HC0 := Aside0.mk hc0
 clear hr0 hc0
 have HR1 := Aside0.mk hr1
 have HC1 := Aside0.mk hc1
 clear hr1 hc1
 have HB := Aside0.mk (Below.refl w.heap.size w)
 have H : (if (l0.length : Int) = (l1.length : Int) then (ringroadlaw26_Replies.l0 k l0 l1 0) else (some false)) = some r := h
 clear h
 by_cases c3 : (l0.length : Int) = (l1.length : Int)
 ·
  rw [if_pos c3] at H
  have c3b0 : ((l0.length : Int) == (l1.length : Int)) = true := beq_iff_eq.mpr c3
  have c3b1 : ((l0.length : Int) != (l1.length : Int)) = false := bne_eq_false_iff_eq.mpr c3
  have c3b2 : (l0.length == l1.length) = true := by first | simpa using c3 | (simp at c3 ⊢; omega)
  clear c3
  have H' := Aside0.mk H
  clear H
  go_enter Tryd.func21, Tryd.ntmps21
  go_wp2
  go_loopg [5] k (fun kq v5 w' => ∃ (x5_1 : Int), v5 = .int .i64 x5_1 ∧ Aside0 (ringroadlaw26_Replies.l0 kq l0 l1 x5_1 = some r) ∧ Aside0 (kq ≤ k) ∧ Aside0 (Below w.heap.size w w'))
  case atStart => exact ⟨(0), (by first | rfl | (simp; done) | (simp [*]; done)), H', ⟨Nat.le_refl _⟩, ⟨by repeat (first | (with_reducible first | exact HB.out | apply below_alloc | apply pw_below_drewN | apply below_drew1) | exact HB.out)⟩⟩
  case round =>
   clear H'
   try clear c1
   try clear c2
   try clear p2
   try clear c3
   try clear c3b0
   try clear c3b1
   try clear c3b2
   obtain ⟨x5_1, rfl, HA, HK1, HB⟩ := hrel
   cases gk with
   | zero => exact absurd HA.out (by simp [ringroadlaw26_Replies.l0])
   | succ k1 =>
    have H := HA.out
    clear HA
    simp only [ringroadlaw26_Replies.l0] at H
    by_cases c4 : x5_1 < (l0.length : Int)
    ·
     rw [if_pos c4] at H
     have c4b0 : decide (x5_1 < (l0.length : Int)) = true := decide_eq_true c4
     clear c4
     by_cases c5 : 0 ≤ x5_1
     ·
      rw [if_pos c5] at H
      have c5b0 : decide (0 ≤ x5_1) = true := decide_eq_true c5
      clear c5
      by_cases c6 : x5_1 < (l1.length : Int)
      ·
       rw [if_pos c6] at H
       have c6b0 : decide (x5_1 < (l1.length : Int)) = true := decide_eq_true c6
       clear c6
       by_cases c7 : ((rd_T49 l0 x5_1).f0) = ((rd_T49 l1 x5_1).f0)
       ·
        rw [if_pos c7] at H
        have c7b0 : (((rd_T49 l0 x5_1).f0) == ((rd_T49 l1 x5_1).f0)) = true := beq_iff_eq.mpr c7
        have c7b1 : (((rd_T49 l0 x5_1).f0) != ((rd_T49 l1 x5_1).f0)) = false := bne_eq_false_iff_eq.mpr c7
        clear c7
        replace H := Option.bind_eq_some_iff.mp H
        obtain ⟨t269, A80, H⟩ := H
        replace H : (if t269 = true then ((ringroadref01_Ints.f k1 ((rd_T49 l0 x5_1).f2) ((rd_T49 l1 x5_1).f2)).bind fun t272 => (if t272 = true then (ringroadlaw26_Replies.l0 k1 l0 l1 (wrap64 (x5_1 + 1))) else (some false))) else (some false)) = some r := H
        have A8 := Aside0.mk A80
        clear A80
        by_cases c9 : t269 = true
        ·
         subst c9
         have H1 : ((ringroadref01_Ints.f k1 ((rd_T49 l0 x5_1).f2) ((rd_T49 l1 x5_1).f2)).bind fun t272 => (if t272 = true then (ringroadlaw26_Replies.l0 k1 l0 l1 (wrap64 (x5_1 + 1))) else (some false))) = some r := by rw [if_pos rfl] at H; exact H
         clear H
         have H := H1
         clear H1
         replace H := Option.bind_eq_some_iff.mp H
         obtain ⟨t272, A100, H⟩ := H
         replace H : (if t272 = true then (ringroadlaw26_Replies.l0 k1 l0 l1 (wrap64 (x5_1 + 1))) else (some false)) = some r := H
         have A10 := Aside0.mk A100
         clear A100
         by_cases c11 : t272 = true
         ·
          subst c11
          have H1 : (ringroadlaw26_Replies.l0 k1 l0 l1 (wrap64 (x5_1 + 1))) = some r := by rw [if_pos rfl] at H; exact H
          clear H
          have H := H1
          clear H1
          have H' := Aside0.mk H
          clear H
          try go_wp2
          have n0_ := Aside0.mk (below_drew1 HB.out)
          clear HB
          have HB := n0_
          clear n0_
          have p265 : 0 ≤ (x5_1 : Int) := of_decide_eq_true (by first | (with_reducible assumption) | assumption)
          have q265 : x5_1 < (l0.length : Int) := of_decide_eq_true (by first | (with_reducible assumption) | assumption)
          obtain ⟨ad265, A265_1, c265_1, A265_2, c265_2, e265, hx265_0, hx265_1, hx265_2, hl265_1, hi265_1, hl265_2, hi265_2⟩ := at_T49 HR0.out x5_1 p265 q265
          have hw265_2 := hx265_2
          have hw265_1 := hx265_1
          have hw265_0 := hx265_0
          cases e265
          replace hx265_0 := (HB.out.cell (World.block_lt_of_cell? w _ hx265_0)).trans hx265_0
          replace hx265_1 := (HB.out.cell (World.block_lt_of_cell? w _ hx265_1)).trans hx265_1
          replace hx265_2 := (HB.out.cell (World.block_lt_of_cell? w _ hx265_2)).trans hx265_2
          have HR265_1 := Aside0.mk hi265_1
          have HC265_1 := Aside0.mk hl265_1
          clear hi265_1 hl265_1
          have HR265_2 := Aside0.mk hi265_2
          have HC265_2 := Aside0.mk hl265_2
          clear hi265_2 hl265_2
          replace p265 := eq_true p265
          replace q265 := eq_true q265
          have p266 : 0 ≤ (x5_1 : Int) := of_decide_eq_true (by first | (with_reducible assumption) | assumption)
          have q266 : x5_1 < (l1.length : Int) := of_decide_eq_true (by first | (with_reducible assumption) | assumption)
          obtain ⟨ad266, A266_1, c266_1, A266_2, c266_2, e266, hx266_0, hx266_1, hx266_2, hl266_1, hi266_1, hl266_2, hi266_2⟩ := at_T49 HR1.out x5_1 p266 q266
          have hw266_2 := hx266_2
          have hw266_1 := hx266_1
          have hw266_0 := hx266_0
          cases e266
          replace hx266_0 := (HB.out.cell (World.block_lt_of_cell? w _ hx266_0)).trans hx266_0
          replace hx266_1 := (HB.out.cell (World.block_lt_of_cell? w _ hx266_1)).trans hx266_1
          replace hx266_2 := (HB.out.cell (World.block_lt_of_cell? w _ hx266_2)).trans hx266_2
          have HR266_1 := Aside0.mk hi266_1
          have HC266_1 := Aside0.mk hl266_1
          clear hi266_1 hl266_1
          have HR266_2 := Aside0.mk hi266_2
          have HC266_2 := Aside0.mk hl266_2
          clear hi266_2 hl266_2
          replace p266 := eq_true p266
          replace q266 := eq_true q266
          have p267 : 0 ≤ (x5_1 : Int) := of_decide_eq_true (by first | (with_reducible assumption) | assumption)
          have q267 : x5_1 < (l0.length : Int) := of_decide_eq_true (by first | (with_reducible assumption) | assumption)
          obtain ⟨ad267, A267_1, c267_1, A267_2, c267_2, e267, hx267_0, hx267_1, hx267_2, hl267_1, hi267_1, hl267_2, hi267_2⟩ := at_T49 HR0.out x5_1 p267 q267
          have hw267_2 := hx267_2
          have hw267_1 := hx267_1
          have hw267_0 := hx267_0
          obtain rfl : ad265 = ad267 := (by injection e267)
          replace hx267_0 := (HB.out.cell (World.block_lt_of_cell? w _ hx267_0)).trans hx267_0
          replace hx267_1 := (HB.out.cell (World.block_lt_of_cell? w _ hx267_1)).trans hx267_1
          replace hx267_2 := (HB.out.cell (World.block_lt_of_cell? w _ hx267_2)).trans hx267_2
          have HR267_1 := Aside0.mk hi267_1
          have HC267_1 := Aside0.mk hl267_1
          clear hi267_1 hl267_1
          have HR267_2 := Aside0.mk hi267_2
          have HC267_2 := Aside0.mk hl267_2
          clear hi267_2 hl267_2
          replace p267 := eq_true p267
          replace q267 := eq_true q267
          have ea_ := Option.some.inj (hx265_1.symm.trans hx267_1)
          injection ea_ with ea_ en_ ec_
          subst ea_
          subst ec_
          clear en_
          have ea_ := Option.some.inj (hx265_2.symm.trans hx267_2)
          injection ea_ with ea_ en_ ec_
          subst ea_
          subst ec_
          clear en_
          have p268 : 0 ≤ (x5_1 : Int) := of_decide_eq_true (by first | (with_reducible assumption) | assumption)
          have q268 : x5_1 < (l1.length : Int) := of_decide_eq_true (by first | (with_reducible assumption) | assumption)
          obtain ⟨ad268, A268_1, c268_1, A268_2, c268_2, e268, hx268_0, hx268_1, hx268_2, hl268_1, hi268_1, hl268_2, hi268_2⟩ := at_T49 HR1.out x5_1 p268 q268
          have hw268_2 := hx268_2
          have hw268_1 := hx268_1
          have hw268_0 := hx268_0
          obtain rfl : ad266 = ad268 := (by injection e268)
          replace hx268_0 := (HB.out.cell (World.block_lt_of_cell? w _ hx268_0)).trans hx268_0
          replace hx268_1 := (HB.out.cell (World.block_lt_of_cell? w _ hx268_1)).trans hx268_1
          replace hx268_2 := (HB.out.cell (World.block_lt_of_cell? w _ hx268_2)).trans hx268_2
          have HR268_1 := Aside0.mk hi268_1
          have HC268_1 := Aside0.mk hl268_1
          clear hi268_1 hl268_1
          have HR268_2 := Aside0.mk hi268_2
          have HC268_2 := Aside0.mk hl268_2
          clear hi268_2 hl268_2
          replace p268 := eq_true p268
          replace q268 := eq_true q268
          have ea_ := Option.some.inj (hx266_1.symm.trans hx268_1)
          injection ea_ with ea_ en_ ec_
          subst ea_
          subst ec_
          clear en_
          have ea_ := Option.some.inj (hx266_2.symm.trans hx268_2)
          injection ea_ with ea_ en_ ec_
          subst ea_
          subst ec_
          clear en_
          have p270 : 0 ≤ (x5_1 : Int) := of_decide_eq_true (by first | (with_reducible assumption) | assumption)
          have q270 : x5_1 < (l0.length : Int) := of_decide_eq_true (by first | (with_reducible assumption) | assumption)
          obtain ⟨ad270, A270_1, c270_1, A270_2, c270_2, e270, hx270_0, hx270_1, hx270_2, hl270_1, hi270_1, hl270_2, hi270_2⟩ := at_T49 HR0.out x5_1 p270 q270
          have hw270_2 := hx270_2
          have hw270_1 := hx270_1
          have hw270_0 := hx270_0
          obtain rfl : ad265 = ad270 := (by injection e270)
          replace hx270_0 := (HB.out.cell (World.block_lt_of_cell? w _ hx270_0)).trans hx270_0
          replace hx270_1 := (HB.out.cell (World.block_lt_of_cell? w _ hx270_1)).trans hx270_1
          replace hx270_2 := (HB.out.cell (World.block_lt_of_cell? w _ hx270_2)).trans hx270_2
          have HR270_1 := Aside0.mk hi270_1
          have HC270_1 := Aside0.mk hl270_1
          clear hi270_1 hl270_1
          have HR270_2 := Aside0.mk hi270_2
          have HC270_2 := Aside0.mk hl270_2
          clear hi270_2 hl270_2
          replace p270 := eq_true p270
          replace q270 := eq_true q270
          have ea_ := Option.some.inj (hx265_1.symm.trans hx270_1)
          injection ea_ with ea_ en_ ec_
          subst ea_
          subst ec_
          clear en_
          have ea_ := Option.some.inj (hx265_2.symm.trans hx270_2)
          injection ea_ with ea_ en_ ec_
          subst ea_
          subst ec_
          clear en_
          have p271 : 0 ≤ (x5_1 : Int) := of_decide_eq_true (by first | (with_reducible assumption) | assumption)
          have q271 : x5_1 < (l1.length : Int) := of_decide_eq_true (by first | (with_reducible assumption) | assumption)
          obtain ⟨ad271, A271_1, c271_1, A271_2, c271_2, e271, hx271_0, hx271_1, hx271_2, hl271_1, hi271_1, hl271_2, hi271_2⟩ := at_T49 HR1.out x5_1 p271 q271
          have hw271_2 := hx271_2
          have hw271_1 := hx271_1
          have hw271_0 := hx271_0
          obtain rfl : ad266 = ad271 := (by injection e271)
          replace hx271_0 := (HB.out.cell (World.block_lt_of_cell? w _ hx271_0)).trans hx271_0
          replace hx271_1 := (HB.out.cell (World.block_lt_of_cell? w _ hx271_1)).trans hx271_1
          replace hx271_2 := (HB.out.cell (World.block_lt_of_cell? w _ hx271_2)).trans hx271_2
          have HR271_1 := Aside0.mk hi271_1
          have HC271_1 := Aside0.mk hl271_1
          clear hi271_1 hl271_1
          have HR271_2 := Aside0.mk hi271_2
          have HC271_2 := Aside0.mk hl271_2
          clear hi271_2 hl271_2
          replace p271 := eq_true p271
          replace q271 := eq_true q271
          have ea_ := Option.some.inj (hx266_1.symm.trans hx271_1)
          injection ea_ with ea_ en_ ec_
          subst ea_
          subst ec_
          clear en_
          have ea_ := Option.some.inj (hx266_2.symm.trans hx271_2)
          injection ea_ with ea_ en_ ec_
          subst ea_
          subst ec_
          clear en_
          refine start_ (n := 39) (S := fun w' => w'.cell? (ad265.add ((x5_1).toNat * 3)) = some (.int .i64 ((rd_T49 l0 x5_1).f0)) ∧ w'.cell? ⟨(ad265.add ((x5_1).toNat * 3)).block, (ad265.add ((x5_1).toNat * 3)).off + 1, none⟩ = some (.slice A265_1 ((rd_T49 l0 x5_1).f1).length c265_1) ∧ w'.cell? ⟨(ad265.add ((x5_1).toNat * 3)).block, (ad265.add ((x5_1).toNat * 3)).off + 2, none⟩ = some (.slice A265_2 ((rd_T49 l0 x5_1).f2).length c265_2) ∧ w'.cell? (ad266.add ((x5_1).toNat * 3)) = some (.int .i64 ((rd_T49 l1 x5_1).f0)) ∧ w'.cell? ⟨(ad266.add ((x5_1).toNat * 3)).block, (ad266.add ((x5_1).toNat * 3)).off + 1, none⟩ = some (.slice A266_1 ((rd_T49 l1 x5_1).f1).length c266_1) ∧ w'.cell? ⟨(ad266.add ((x5_1).toNat * 3)).block, (ad266.add ((x5_1).toNat * 3)).off + 2, none⟩ = some (.slice A266_2 ((rd_T49 l1 x5_1).f2).length c266_2) ∧ w'.cell? (ad265.add ((x5_1).toNat * 3)) = some (.int .i64 ((rd_T49 l0 x5_1).f0)) ∧ w'.cell? ⟨(ad265.add ((x5_1).toNat * 3)).block, (ad265.add ((x5_1).toNat * 3)).off + 1, none⟩ = some (.slice A265_1 ((rd_T49 l0 x5_1).f1).length c265_1) ∧ w'.cell? ⟨(ad265.add ((x5_1).toNat * 3)).block, (ad265.add ((x5_1).toNat * 3)).off + 2, none⟩ = some (.slice A265_2 ((rd_T49 l0 x5_1).f2).length c265_2) ∧ w'.cell? (ad266.add ((x5_1).toNat * 3)) = some (.int .i64 ((rd_T49 l1 x5_1).f0)) ∧ w'.cell? ⟨(ad266.add ((x5_1).toNat * 3)).block, (ad266.add ((x5_1).toNat * 3)).off + 1, none⟩ = some (.slice A266_1 ((rd_T49 l1 x5_1).f1).length c266_1) ∧ w'.cell? ⟨(ad266.add ((x5_1).toNat * 3)).block, (ad266.add ((x5_1).toNat * 3)).off + 2, none⟩ = some (.slice A266_2 ((rd_T49 l1 x5_1).f2).length c266_2) ∧ w'.cell? (ad265.add ((x5_1).toNat * 3)) = some (.int .i64 ((rd_T49 l0 x5_1).f0)) ∧ w'.cell? ⟨(ad265.add ((x5_1).toNat * 3)).block, (ad265.add ((x5_1).toNat * 3)).off + 1, none⟩ = some (.slice A265_1 ((rd_T49 l0 x5_1).f1).length c265_1) ∧ w'.cell? ⟨(ad265.add ((x5_1).toNat * 3)).block, (ad265.add ((x5_1).toNat * 3)).off + 2, none⟩ = some (.slice A265_2 ((rd_T49 l0 x5_1).f2).length c265_2) ∧ w'.cell? (ad266.add ((x5_1).toNat * 3)) = some (.int .i64 ((rd_T49 l1 x5_1).f0)) ∧ w'.cell? ⟨(ad266.add ((x5_1).toNat * 3)).block, (ad266.add ((x5_1).toNat * 3)).off + 1, none⟩ = some (.slice A266_1 ((rd_T49 l1 x5_1).f1).length c266_1) ∧ w'.cell? ⟨(ad266.add ((x5_1).toNat * 3)).block, (ad266.add ((x5_1).toNat * 3)).off + 2, none⟩ = some (.slice A266_2 ((rd_T49 l1 x5_1).f2).length c266_2)) (ds := []) #[false, false, false, false, false, false, false, false, false, false, false, false, false, false, false, false, false, false, false, false, false, false, false, false, false, false, false, false, false, false, false, false, false, false, false, false, false, false, false] (by kernel_rfl) rfl rfl ⟨((HB.out.cell (World.block_lt_of_cell? w _ hw265_0)).trans hw265_0), ((HB.out.cell (World.block_lt_of_cell? w _ hw265_1)).trans hw265_1), ((HB.out.cell (World.block_lt_of_cell? w _ hw265_2)).trans hw265_2), ((HB.out.cell (World.block_lt_of_cell? w _ hw266_0)).trans hw266_0), ((HB.out.cell (World.block_lt_of_cell? w _ hw266_1)).trans hw266_1), ((HB.out.cell (World.block_lt_of_cell? w _ hw266_2)).trans hw266_2), ((HB.out.cell (World.block_lt_of_cell? w _ hw267_0)).trans hw267_0), ((HB.out.cell (World.block_lt_of_cell? w _ hw267_1)).trans hw267_1), ((HB.out.cell (World.block_lt_of_cell? w _ hw267_2)).trans hw267_2), ((HB.out.cell (World.block_lt_of_cell? w _ hw268_0)).trans hw268_0), ((HB.out.cell (World.block_lt_of_cell? w _ hw268_1)).trans hw268_1), ((HB.out.cell (World.block_lt_of_cell? w _ hw268_2)).trans hw268_2), ((HB.out.cell (World.block_lt_of_cell? w _ hw270_0)).trans hw270_0), ((HB.out.cell (World.block_lt_of_cell? w _ hw270_1)).trans hw270_1), ((HB.out.cell (World.block_lt_of_cell? w _ hw270_2)).trans hw270_2), ((HB.out.cell (World.block_lt_of_cell? w _ hw271_0)).trans hw271_0), ((HB.out.cell (World.block_lt_of_cell? w _ hw271_1)).trans hw271_1), ((HB.out.cell (World.block_lt_of_cell? w _ hw271_2)).trans hw271_2)⟩ (fun hHeld => ?_); refine with_tabW ringroadlaw26_Replies.tab6 ringroadlaw26_Replies.bits6 (fun HT_ HW_ => ?_)
          generalize wr.drew = w12 at HB HR265_1 HR265_2 HR266_1 HR266_2 HR267_1 HR267_2 HR268_1 HR268_2 HR270_1 HR270_2 HR271_1 HR271_2 hx265_0 hx265_1 hx265_2 hx266_0 hx266_1 hx266_2 hx267_0 hx267_1 hx267_2 hx268_0 hx268_1 hx268_2 hx270_0 hx270_1 hx270_2 hx271_0 hx271_1 hx271_2 hHeld ⊢
          refine pure_ (i := 0) (N := some 17) (v := ?_) (a' := ?_) #[true, false, false, false, false, false, false, false, false, false, false, false, false, false, false, false, false, false, false, false, false, false, false, false, false, false, false, false, false, false, false, false, false, false, false, false, false, false, false] rfl rfl (any_of HT_.out (by kernel_rfl)) (fun _ _ _ h => h) (Or.inl ⟨by rfl, ?_⟩) ?_ ?_
          rotate_left
          ·
           intro w'
           go_simp
           with_reducible rfl
          rotate_left
          ·
           simp only [Act.put, List.setIfInBounds_toArray, List.set_cons_zero, List.set_cons_succ, i64_w, i32_w]
           rfl
          refine pure_ (i := 1) (N := some 18) (v := ?_) (a' := ?_) #[true, true, false, false, false, false, false, false, false, false, false, false, false, false, false, false, false, false, false, false, false, false, false, false, false, false, false, false, false, false, false, false, false, false, false, false, false, false, false] rfl rfl (any_of HT_.out (by kernel_rfl)) (fun _ _ _ h => h) (Or.inl ⟨by rfl, ?_⟩) ?_ ?_
          rotate_left
          ·
           intro w'
           go_simp
           with_reducible rfl
          rotate_left
          ·
           simp only [Act.put, List.setIfInBounds_toArray, List.set_cons_zero, List.set_cons_succ, i64_w, i32_w]
           rfl
          refine pure_ (i := 2) (N := some 19) (v := ?_) (a' := ?_) #[true, true, true, false, false, false, false, false, false, false, false, false, false, false, false, false, false, false, false, false, false, false, false, false, false, false, false, false, false, false, false, false, false, false, false, false, false, false, false] rfl rfl (any_of HT_.out (by kernel_rfl)) (fun _ _ _ h => h) (Or.inl ⟨by rfl, ?_⟩) ?_ ?_
          rotate_left
          ·
           intro w'
           go_simp
           with_reducible rfl
          rotate_left
          ·
           simp only [Act.put, List.setIfInBounds_toArray, List.set_cons_zero, List.set_cons_succ, i64_w, i32_w]
           rfl
          refine pure_ (i := 3) (N := some 20) (v := ?_) (a' := ?_) #[true, true, true, true, false, false, false, false, false, false, false, false, false, false, false, false, false, false, false, false, false, false, false, false, false, false, false, false, false, false, false, false, false, false, false, false, false, false, false] rfl rfl (any_of HT_.out (by kernel_rfl)) (fun _ _ _ h => h) (Or.inl ⟨by rfl, ?_⟩) ?_ ?_
          rotate_left
          ·
           intro w'
           go_simp
           with_reducible rfl
          rotate_left
          ·
           simp only [Act.put, List.setIfInBounds_toArray, List.set_cons_zero, List.set_cons_succ, i64_w, i32_w]
           rfl
          refine pure_ (i := 5) (N := some 22) (v := ?_) (a' := ?_) #[true, true, true, true, false, true, false, false, false, false, false, false, false, false, false, false, false, false, false, false, false, false, false, false, false, false, false, false, false, false, false, false, false, false, false, false, false, false, false] rfl rfl (any_of HT_.out (by kernel_rfl)) (fun _ _ _ h => h) (Or.inl ⟨by rfl, ?_⟩) ?_ ?_
          rotate_left
          ·
           intro w'
           go_simp
           with_reducible rfl
          rotate_left
          ·
           simp only [Act.put, List.setIfInBounds_toArray, List.set_cons_zero, List.set_cons_succ, i64_w, i32_w]
           rfl
          refine pure_ (i := 6) (N := some 23) (v := ?_) (a' := ?_) #[true, true, true, true, false, true, true, false, false, false, false, false, false, false, false, false, false, false, false, false, false, false, false, false, false, false, false, false, false, false, false, false, false, false, false, false, false, false, false] rfl rfl (any_of HT_.out (by kernel_rfl)) (fun _ _ _ h => h) (Or.inl ⟨by rfl, ?_⟩) ?_ ?_
          rotate_left
          ·
           intro w'
           go_simp
           with_reducible rfl
          rotate_left
          ·
           simp only [Act.put, List.setIfInBounds_toArray, List.set_cons_zero, List.set_cons_succ, i64_w, i32_w]
           rfl
          refine pure_ (i := 7) (N := some 24) (v := ?_) (a' := ?_) #[true, true, true, true, false, true, true, true, false, false, false, false, false, false, false, false, false, false, false, false, false, false, false, false, false, false, false, false, false, false, false, false, false, false, false, false, false, false, false] rfl rfl (any_of HT_.out (by kernel_rfl)) (fun _ _ _ h => h) (Or.inl ⟨by rfl, ?_⟩) ?_ ?_
          rotate_left
          ·
           intro w'
           go_simp
           with_reducible rfl
          rotate_left
          ·
           simp only [Act.put, List.setIfInBounds_toArray, List.set_cons_zero, List.set_cons_succ, i64_w, i32_w]
           rfl
          refine pure_ (i := 8) (N := some 25) (v := ?_) (a' := ?_) #[true, true, true, true, false, true, true, true, true, false, false, false, false, false, false, false, false, false, false, false, false, false, false, false, false, false, false, false, false, false, false, false, false, false, false, false, false, false, false] rfl rfl (any_of HT_.out (by kernel_rfl)) (fun _ _ _ h => h) (Or.inl ⟨by rfl, ?_⟩) ?_ ?_
          rotate_left
          ·
           intro w'
           go_simp
           with_reducible rfl
          rotate_left
          ·
           simp only [Act.put, List.setIfInBounds_toArray, List.set_cons_zero, List.set_cons_succ, i64_w, i32_w]
           rfl
          refine take_ (i := 4) (N := some 21) (v := ?_) (a' := ?_) #[true, true, true, true, true, true, true, true, true, false, false, false, false, false, false, false, false, false, false, false, false, false, false, false, false, false, false, false, false, false, false, false, false, false, false, false, false, false, false] rfl rfl (take_ofW HT_.out HW_.out (by kernel_rfl)) (fun _ _ _ h => h) (Or.inl ⟨by rfl, ?_⟩) hHeld ?_ ?_
          rotate_left
          ·
           rintro w' ⟨s0, s1, s2, s3, s4, s5, s6, s7, s8, s9, s10, s11, s12, s13, s14, s15, s16, s17⟩
           go_simp
           with_reducible rfl
          rotate_left
          ·
           simp only [Act.put, List.setIfInBounds_toArray, List.set_cons_zero, List.set_cons_succ, i64_w, i32_w]
           rfl
          refine take_ (i := 9) (N := some 26) (v := ?_) (a' := ?_) #[true, true, true, true, true, true, true, true, true, true, false, false, false, false, false, false, false, false, false, false, false, false, false, false, false, false, false, false, false, false, false, false, false, false, false, false, false, false, false] rfl rfl (take_ofW HT_.out HW_.out (by kernel_rfl)) (fun _ _ _ h => h) (Or.inl ⟨by rfl, ?_⟩) hHeld ?_ ?_
          rotate_left
          ·
           rintro w' ⟨s0, s1, s2, s3, s4, s5, s6, s7, s8, s9, s10, s11, s12, s13, s14, s15, s16, s17⟩
           go_simp
           with_reducible rfl
          rotate_left
          ·
           simp only [Act.put, List.setIfInBounds_toArray, List.set_cons_zero, List.set_cons_succ, i64_w, i32_w]
           rfl
          refine pure_ (i := 10) (N := some 27) (v := ?_) (a' := ?_) #[true, true, true, true, true, true, true, true, true, true, true, false, false, false, false, false, false, false, false, false, false, false, false, false, false, false, false, false, false, false, false, false, false, false, false, false, false, false, false] rfl rfl (any_of HT_.out (by kernel_rfl)) (fun _ _ _ h => h) (Or.inl ⟨by rfl, ?_⟩) ?_ ?_
          rotate_left
          ·
           intro w'
           go_simp
           with_reducible rfl
          rotate_left
          ·
           simp only [Act.put, List.setIfInBounds_toArray, List.set_cons_zero, List.set_cons_succ, i64_w, i32_w]
           rfl
          refine pure_ (i := 11) (N := some 28) (v := ?_) (a' := ?_) #[true, true, true, true, true, true, true, true, true, true, true, true, false, false, false, false, false, false, false, false, false, false, false, false, false, false, false, false, false, false, false, false, false, false, false, false, false, false, false] rfl rfl (any_of HT_.out (by kernel_rfl)) (fun _ _ _ h => h) (Or.inl ⟨by rfl, ?_⟩) ?_ ?_
          rotate_left
          ·
           intro w'
           go_simp
           with_reducible rfl
          rotate_left
          ·
           simp only [Act.put, List.setIfInBounds_toArray, List.set_cons_zero, List.set_cons_succ, i64_w, i32_w]
           rfl
          refine pure_ (i := 12) (N := some 29) (v := ?_) (a' := ?_) #[true, true, true, true, true, true, true, true, true, true, true, true, true, false, false, false, false, false, false, false, false, false, false, false, false, false, false, false, false, false, false, false, false, false, false, false, false, false, false] rfl rfl (any_of HT_.out (by kernel_rfl)) (fun _ _ _ h => h) (Or.inl ⟨by rfl, ?_⟩) ?_ ?_
          rotate_left
          ·
           intro w'
           go_simp
           with_reducible rfl
          rotate_left
          ·
           simp only [Act.put, List.setIfInBounds_toArray, List.set_cons_zero, List.set_cons_succ, i64_w, i32_w]
           rfl
          refine pure_ (i := 13) (N := some 30) (v := ?_) (a' := ?_) #[true, true, true, true, true, true, true, true, true, true, true, true, true, true, false, false, false, false, false, false, false, false, false, false, false, false, false, false, false, false, false, false, false, false, false, false, false, false, false] rfl rfl (any_of HT_.out (by kernel_rfl)) (fun _ _ _ h => h) (Or.inl ⟨by rfl, ?_⟩) ?_ ?_
          rotate_left
          ·
           intro w'
           go_simp
           with_reducible rfl
          rotate_left
          ·
           simp only [Act.put, List.setIfInBounds_toArray, List.set_cons_zero, List.set_cons_succ, i64_w, i32_w]
           rfl
          refine pure_ (i := 14) (N := some 31) (v := ?_) (a' := ?_) #[true, true, true, true, true, true, true, true, true, true, true, true, true, true, true, false, false, false, false, false, false, false, false, false, false, false, false, false, false, false, false, false, false, false, false, false, false, false, false] rfl rfl (any_of HT_.out (by kernel_rfl)) (fun _ _ _ h => h) (Or.inl ⟨by rfl, ?_⟩) ?_ ?_
          rotate_left
          ·
           intro w'
           go_simp
           with_reducible rfl
          rotate_left
          ·
           simp only [Act.put, List.setIfInBounds_toArray, List.set_cons_zero, List.set_cons_succ, i64_w, i32_w]
           rfl
          refine pure_ (i := 15) (N := some 32) (v := ?_) (a' := ?_) #[true, true, true, true, true, true, true, true, true, true, true, true, true, true, true, true, false, false, false, false, false, false, false, false, false, false, false, false, false, false, false, false, false, false, false, false, false, false, false] rfl rfl (any_of HT_.out (by kernel_rfl)) (fun _ _ _ h => h) (Or.inl ⟨by rfl, ?_⟩) ?_ ?_
          rotate_left
          ·
           intro w'
           go_simp
           with_reducible rfl
          rotate_left
          ·
           simp only [Act.put, List.setIfInBounds_toArray, List.set_cons_zero, List.set_cons_succ, i64_w, i32_w]
           rfl
          refine pure_ (i := 17) (N := some 34) (v := ?_) (a' := ?_) #[true, true, true, true, true, true, true, true, true, true, true, true, true, true, true, true, false, true, false, false, false, false, false, false, false, false, false, false, false, false, false, false, false, false, false, false, false, false, false] rfl rfl (any_of HT_.out (by kernel_rfl)) (fun _ _ _ h => h) (Or.inl ⟨by rfl, ?_⟩) ?_ ?_
          rotate_left
          ·
           intro w'
           go_simp
           with_reducible rfl
          rotate_left
          ·
           simp only [Act.put, List.setIfInBounds_toArray, List.set_cons_zero, List.set_cons_succ, i64_w, i32_w]
           rfl
          refine pure_ (i := 18) (N := some 35) (v := ?_) (a' := ?_) #[true, true, true, true, true, true, true, true, true, true, true, true, true, true, true, true, false, true, true, false, false, false, false, false, false, false, false, false, false, false, false, false, false, false, false, false, false, false, false] rfl rfl (any_of HT_.out (by kernel_rfl)) (fun _ _ _ h => h) (Or.inl ⟨by rfl, ?_⟩) ?_ ?_
          rotate_left
          ·
           intro w'
           go_simp
           with_reducible rfl
          rotate_left
          ·
           simp only [Act.put, List.setIfInBounds_toArray, List.set_cons_zero, List.set_cons_succ, i64_w, i32_w]
           rfl
          refine pure_ (i := 19) (N := some 36) (v := ?_) (a' := ?_) #[true, true, true, true, true, true, true, true, true, true, true, true, true, true, true, true, false, true, true, true, false, false, false, false, false, false, false, false, false, false, false, false, false, false, false, false, false, false, false] rfl rfl (any_of HT_.out (by kernel_rfl)) (fun _ _ _ h => h) (Or.inl ⟨by rfl, ?_⟩) ?_ ?_
          rotate_left
          ·
           intro w'
           go_simp
           with_reducible rfl
          rotate_left
          ·
           simp only [Act.put, List.setIfInBounds_toArray, List.set_cons_zero, List.set_cons_succ, i64_w, i32_w]
           rfl
          refine pure_ (i := 20) (N := some 37) (v := ?_) (a' := ?_) #[true, true, true, true, true, true, true, true, true, true, true, true, true, true, true, true, false, true, true, true, true, false, false, false, false, false, false, false, false, false, false, false, false, false, false, false, false, false, false] rfl rfl (any_of HT_.out (by kernel_rfl)) (fun _ _ _ h => h) (Or.inl ⟨by rfl, ?_⟩) ?_ ?_
          rotate_left
          ·
           intro w'
           go_simp
           with_reducible rfl
          rotate_left
          ·
           simp only [Act.put, List.setIfInBounds_toArray, List.set_cons_zero, List.set_cons_succ, i64_w, i32_w]
           rfl
          refine take_ (i := 16) (N := some 33) (v := ?_) (a' := ?_) #[true, true, true, true, true, true, true, true, true, true, true, true, true, true, true, true, true, true, true, true, true, false, false, false, false, false, false, false, false, false, false, false, false, false, false, false, false, false, false] rfl rfl (take_ofW HT_.out HW_.out (by kernel_rfl)) (fun _ _ _ h => h) (Or.inl ⟨by rfl, ?_⟩) hHeld ?_ ?_
          rotate_left
          ·
           rintro w' ⟨s0, s1, s2, s3, s4, s5, s6, s7, s8, s9, s10, s11, s12, s13, s14, s15, s16, s17⟩
           go_simp
           with_reducible rfl
          rotate_left
          ·
           simp only [Act.put, List.setIfInBounds_toArray, List.set_cons_zero, List.set_cons_succ, i64_w, i32_w]
           rfl
          refine take_ (i := 21) (N := some 38) (v := ?_) (a' := ?_) #[true, true, true, true, true, true, true, true, true, true, true, true, true, true, true, true, true, true, true, true, true, true, false, false, false, false, false, false, false, false, false, false, false, false, false, false, false, false, false] rfl rfl (take_ofW HT_.out HW_.out (by kernel_rfl)) (fun _ _ _ h => h) (Or.inl ⟨by rfl, ?_⟩) hHeld ?_ ?_
          rotate_left
          ·
           rintro w' ⟨s0, s1, s2, s3, s4, s5, s6, s7, s8, s9, s10, s11, s12, s13, s14, s15, s16, s17⟩
           go_simp
           with_reducible rfl
          rotate_left
          ·
           simp only [Act.put, List.setIfInBounds_toArray, List.set_cons_zero, List.set_cons_succ, i64_w, i32_w]
           rfl
          refine one_ (i := 22) (N := some 39) #[true, true, true, true, true, true, true, true, true, true, true, true, true, true, true, true, true, true, true, true, true, true, true, false, false, false, false, false, false, false, false, false, false, false, false, false, false, false, false] rfl rfl (one_of HT_.out (by kernel_rfl)) (by decide) (fun K hK => ?_)
          refine goes_ Tryd.func38 (by kernel_rfl) rfl #[.slice A265_1 ((rd_T49 l0 x5_1).f1).length c265_1, .slice A266_1 ((rd_T49 l1 x5_1).f1).length c266_1] (by rfl) rfl rfl (by (try simp only [List.map_toArray, List.map_cons, List.map_nil]); first | done | rfl | (simp only [List.length_drop, List.length_take]; rfl)) ?_
          with_reducible refine (ringroadref01_Ints.calls k1 _ _ ((rd_T49 l0 x5_1).f1) _ _ ((rd_T49 l1 x5_1).f1) true _ ?side1 ?side2 ?side3 ?side4 A8.out).mono ?_
          (case side1 => repeat (first | exact (Kd.C_below HR267_1.out HB.out) | (with_reducible refine Kd.C_alloc ?_ _) | (with_reducible refine Kd.C_drewN ?_ _) | (with_reducible refine Kd.C_drew ?_)))
          (case side2 => exact HC267_1.out)
          (case side3 => repeat (first | exact (Kd.C_below HR268_1.out HB.out) | (with_reducible refine Kd.C_alloc ?_ _) | (with_reducible refine Kd.C_drewN ?_ _) | (with_reducible refine Kd.C_drew ?_)))
          (case side4 => exact HC268_1.out)
          rintro e w' ⟨rfl, ⟨nd, rfl⟩⟩
          refine ⟨_, rfl, ?_⟩
          refine hK.out _ _ ⟨((HB.out.cell (World.block_lt_of_cell? w _ hw265_0)).trans hw265_0), ((HB.out.cell (World.block_lt_of_cell? w _ hw265_1)).trans hw265_1), ((HB.out.cell (World.block_lt_of_cell? w _ hw265_2)).trans hw265_2), ((HB.out.cell (World.block_lt_of_cell? w _ hw266_0)).trans hw266_0), ((HB.out.cell (World.block_lt_of_cell? w _ hw266_1)).trans hw266_1), ((HB.out.cell (World.block_lt_of_cell? w _ hw266_2)).trans hw266_2), ((HB.out.cell (World.block_lt_of_cell? w _ hw267_0)).trans hw267_0), ((HB.out.cell (World.block_lt_of_cell? w _ hw267_1)).trans hw267_1), ((HB.out.cell (World.block_lt_of_cell? w _ hw267_2)).trans hw267_2), ((HB.out.cell (World.block_lt_of_cell? w _ hw268_0)).trans hw268_0), ((HB.out.cell (World.block_lt_of_cell? w _ hw268_1)).trans hw268_1), ((HB.out.cell (World.block_lt_of_cell? w _ hw268_2)).trans hw268_2), ((HB.out.cell (World.block_lt_of_cell? w _ hw270_0)).trans hw270_0), ((HB.out.cell (World.block_lt_of_cell? w _ hw270_1)).trans hw270_1), ((HB.out.cell (World.block_lt_of_cell? w _ hw270_2)).trans hw270_2), ((HB.out.cell (World.block_lt_of_cell? w _ hw271_0)).trans hw271_0), ((HB.out.cell (World.block_lt_of_cell? w _ hw271_1)).trans hw271_1), ((HB.out.cell (World.block_lt_of_cell? w _ hw271_2)).trans hw271_2)⟩ (fun hHeld => ?_)
          clear hK K
          refine norm_ (a' := ?_) ?_ ?_
          rotate_left
          ·
           show Act.put _ (some 39) _ = _
           simp only [Act.put, List.setIfInBounds_toArray, List.set_cons_zero, List.set_cons_succ, i64_w, i32_w]
           rfl
          refine pure_ (i := 23) (N := some 40) (v := ?_) (a' := ?_) #[true, true, true, true, true, true, true, true, true, true, true, true, true, true, true, true, true, true, true, true, true, true, true, true, false, false, false, false, false, false, false, false, false, false, false, false, false, false, false] rfl rfl (any_of HT_.out (by kernel_rfl)) (fun _ _ _ h => h) (Or.inl ⟨by rfl, ?_⟩) ?_ ?_
          rotate_left
          ·
           intro w'
           go_simp
           with_reducible rfl
          rotate_left
          ·
           simp only [Act.put, List.setIfInBounds_toArray, List.set_cons_zero, List.set_cons_succ, i64_w, i32_w]
           rfl
          refine pure_ (i := 24) (N := some 41) (v := ?_) (a' := ?_) #[true, true, true, true, true, true, true, true, true, true, true, true, true, true, true, true, true, true, true, true, true, true, true, true, true, false, false, false, false, false, false, false, false, false, false, false, false, false, false] rfl rfl (any_of HT_.out (by kernel_rfl)) (fun _ _ _ h => h) (Or.inl ⟨by rfl, ?_⟩) ?_ ?_
          rotate_left
          ·
           intro w'
           go_simp
           with_reducible rfl
          rotate_left
          ·
           simp only [Act.put, List.setIfInBounds_toArray, List.set_cons_zero, List.set_cons_succ, i64_w, i32_w]
           rfl
          refine pure_ (i := 25) (N := some 42) (v := ?_) (a' := ?_) #[true, true, true, true, true, true, true, true, true, true, true, true, true, true, true, true, true, true, true, true, true, true, true, true, true, true, false, false, false, false, false, false, false, false, false, false, false, false, false] rfl rfl (any_of HT_.out (by kernel_rfl)) (fun _ _ _ h => h) (Or.inl ⟨by rfl, ?_⟩) ?_ ?_
          rotate_left
          ·
           intro w'
           go_simp
           with_reducible rfl
          rotate_left
          ·
           simp only [Act.put, List.setIfInBounds_toArray, List.set_cons_zero, List.set_cons_succ, i64_w, i32_w]
           rfl
          refine pure_ (i := 26) (N := some 43) (v := ?_) (a' := ?_) #[true, true, true, true, true, true, true, true, true, true, true, true, true, true, true, true, true, true, true, true, true, true, true, true, true, true, true, false, false, false, false, false, false, false, false, false, false, false, false] rfl rfl (any_of HT_.out (by kernel_rfl)) (fun _ _ _ h => h) (Or.inl ⟨by rfl, ?_⟩) ?_ ?_
          rotate_left
          ·
           intro w'
           go_simp
           with_reducible rfl
          rotate_left
          ·
           simp only [Act.put, List.setIfInBounds_toArray, List.set_cons_zero, List.set_cons_succ, i64_w, i32_w]
           rfl
          refine pure_ (i := 27) (N := some 44) (v := ?_) (a' := ?_) #[true, true, true, true, true, true, true, true, true, true, true, true, true, true, true, true, true, true, true, true, true, true, true, true, true, true, true, true, false, false, false, false, false, false, false, false, false, false, false] rfl rfl (any_of HT_.out (by kernel_rfl)) (fun _ _ _ h => h) (Or.inl ⟨by rfl, ?_⟩) ?_ ?_
          rotate_left
          ·
           intro w'
           go_simp
           with_reducible rfl
          rotate_left
          ·
           simp only [Act.put, List.setIfInBounds_toArray, List.set_cons_zero, List.set_cons_succ, i64_w, i32_w]
           rfl
          refine pure_ (i := 28) (N := some 45) (v := ?_) (a' := ?_) #[true, true, true, true, true, true, true, true, true, true, true, true, true, true, true, true, true, true, true, true, true, true, true, true, true, true, true, true, true, false, false, false, false, false, false, false, false, false, false] rfl rfl (any_of HT_.out (by kernel_rfl)) (fun _ _ _ h => h) (Or.inl ⟨by rfl, ?_⟩) ?_ ?_
          rotate_left
          ·
           intro w'
           go_simp
           with_reducible rfl
          rotate_left
          ·
           simp only [Act.put, List.setIfInBounds_toArray, List.set_cons_zero, List.set_cons_succ, i64_w, i32_w]
           rfl
          refine pure_ (i := 29) (N := some 46) (v := ?_) (a' := ?_) #[true, true, true, true, true, true, true, true, true, true, true, true, true, true, true, true, true, true, true, true, true, true, true, true, true, true, true, true, true, true, false, false, false, false, false, false, false, false, false] rfl rfl (any_of HT_.out (by kernel_rfl)) (fun _ _ _ h => h) (Or.inl ⟨by rfl, ?_⟩) ?_ ?_
          rotate_left
          ·
           intro w'
           go_simp
           with_reducible rfl
          rotate_left
          ·
           simp only [Act.put, List.setIfInBounds_toArray, List.set_cons_zero, List.set_cons_succ, i64_w, i32_w]
           rfl
          refine pure_ (i := 31) (N := some 48) (v := ?_) (a' := ?_) #[true, true, true, true, true, true, true, true, true, true, true, true, true, true, true, true, true, true, true, true, true, true, true, true, true, true, true, true, true, true, false, true, false, false, false, false, false, false, false] rfl rfl (any_of HT_.out (by kernel_rfl)) (fun _ _ _ h => h) (Or.inl ⟨by rfl, ?_⟩) ?_ ?_
          rotate_left
          ·
           intro w'
           go_simp
           with_reducible rfl
          rotate_left
          ·
           simp only [Act.put, List.setIfInBounds_toArray, List.set_cons_zero, List.set_cons_succ, i64_w, i32_w]
           rfl
          refine pure_ (i := 32) (N := some 49) (v := ?_) (a' := ?_) #[true, true, true, true, true, true, true, true, true, true, true, true, true, true, true, true, true, true, true, true, true, true, true, true, true, true, true, true, true, true, false, true, true, false, false, false, false, false, false] rfl rfl (any_of HT_.out (by kernel_rfl)) (fun _ _ _ h => h) (Or.inl ⟨by rfl, ?_⟩) ?_ ?_
          rotate_left
          ·
           intro w'
           go_simp
           with_reducible rfl
          rotate_left
          ·
           simp only [Act.put, List.setIfInBounds_toArray, List.set_cons_zero, List.set_cons_succ, i64_w, i32_w]
           rfl
          refine pure_ (i := 33) (N := some 50) (v := ?_) (a' := ?_) #[true, true, true, true, true, true, true, true, true, true, true, true, true, true, true, true, true, true, true, true, true, true, true, true, true, true, true, true, true, true, false, true, true, true, false, false, false, false, false] rfl rfl (any_of HT_.out (by kernel_rfl)) (fun _ _ _ h => h) (Or.inl ⟨by rfl, ?_⟩) ?_ ?_
          rotate_left
          ·
           intro w'
           go_simp
           with_reducible rfl
          rotate_left
          ·
           simp only [Act.put, List.setIfInBounds_toArray, List.set_cons_zero, List.set_cons_succ, i64_w, i32_w]
           rfl
          refine pure_ (i := 34) (N := some 51) (v := ?_) (a' := ?_) #[true, true, true, true, true, true, true, true, true, true, true, true, true, true, true, true, true, true, true, true, true, true, true, true, true, true, true, true, true, true, false, true, true, true, true, false, false, false, false] rfl rfl (any_of HT_.out (by kernel_rfl)) (fun _ _ _ h => h) (Or.inl ⟨by rfl, ?_⟩) ?_ ?_
          rotate_left
          ·
           intro w'
           go_simp
           with_reducible rfl
          rotate_left
          ·
           simp only [Act.put, List.setIfInBounds_toArray, List.set_cons_zero, List.set_cons_succ, i64_w, i32_w]
           rfl
          refine take_ (i := 30) (N := some 47) (v := ?_) (a' := ?_) #[true, true, true, true, true, true, true, true, true, true, true, true, true, true, true, true, true, true, true, true, true, true, true, true, true, true, true, true, true, true, true, true, true, true, true, false, false, false, false] rfl rfl (take_ofW HT_.out HW_.out (by kernel_rfl)) (fun _ _ _ h => h) (Or.inl ⟨by rfl, ?_⟩) hHeld ?_ ?_
          rotate_left
          ·
           rintro w' ⟨s0, s1, s2, s3, s4, s5, s6, s7, s8, s9, s10, s11, s12, s13, s14, s15, s16, s17⟩
           go_simp
           with_reducible rfl
          rotate_left
          ·
           simp only [Act.put, List.setIfInBounds_toArray, List.set_cons_zero, List.set_cons_succ, i64_w, i32_w]
           rfl
          refine take_ (i := 35) (N := some 52) (v := ?_) (a' := ?_) #[true, true, true, true, true, true, true, true, true, true, true, true, true, true, true, true, true, true, true, true, true, true, true, true, true, true, true, true, true, true, true, true, true, true, true, true, false, false, false] rfl rfl (take_ofW HT_.out HW_.out (by kernel_rfl)) (fun _ _ _ h => h) (Or.inl ⟨by rfl, ?_⟩) hHeld ?_ ?_
          rotate_left
          ·
           rintro w' ⟨s0, s1, s2, s3, s4, s5, s6, s7, s8, s9, s10, s11, s12, s13, s14, s15, s16, s17⟩
           go_simp
           with_reducible rfl
          rotate_left
          ·
           simp only [Act.put, List.setIfInBounds_toArray, List.set_cons_zero, List.set_cons_succ, i64_w, i32_w]
           rfl
          refine one_ (i := 36) (N := some 53) #[true, true, true, true, true, true, true, true, true, true, true, true, true, true, true, true, true, true, true, true, true, true, true, true, true, true, true, true, true, true, true, true, true, true, true, true, true, false, false] rfl rfl (one_of HT_.out (by kernel_rfl)) (by decide) (fun K hK => ?_)
          refine goes_ Tryd.func38 (by kernel_rfl) rfl #[.slice A265_2 ((rd_T49 l0 x5_1).f2).length c265_2, .slice A266_2 ((rd_T49 l1 x5_1).f2).length c266_2] (by rfl) rfl rfl (by (try simp only [List.map_toArray, List.map_cons, List.map_nil]); first | done | rfl | (simp only [List.length_drop, List.length_take]; rfl)) ?_
          with_reducible refine (ringroadref01_Ints.calls k1 _ _ ((rd_T49 l0 x5_1).f2) _ _ ((rd_T49 l1 x5_1).f2) true _ ?side1 ?side2 ?side3 ?side4 A10.out).mono ?_
          (case side1 => repeat (first | exact (Kd.C_below HR270_2.out (by repeat (first | (with_reducible first | exact HB.out | apply below_alloc | apply pw_below_drewN | apply below_drew1) | exact HB.out))) | (with_reducible refine Kd.C_alloc ?_ _) | (with_reducible refine Kd.C_drewN ?_ _) | (with_reducible refine Kd.C_drew ?_)))
          (case side2 => exact HC270_2.out)
          (case side3 => repeat (first | exact (Kd.C_below HR271_2.out (by repeat (first | (with_reducible first | exact HB.out | apply below_alloc | apply pw_below_drewN | apply below_drew1) | exact HB.out))) | (with_reducible refine Kd.C_alloc ?_ _) | (with_reducible refine Kd.C_drewN ?_ _) | (with_reducible refine Kd.C_drew ?_)))
          (case side4 => exact HC271_2.out)
          rintro e w' ⟨rfl, ⟨nd, rfl⟩⟩
          refine ⟨_, rfl, ?_⟩
          refine hK.out _ _ ⟨((HB.out.cell (World.block_lt_of_cell? w _ hw265_0)).trans hw265_0), ((HB.out.cell (World.block_lt_of_cell? w _ hw265_1)).trans hw265_1), ((HB.out.cell (World.block_lt_of_cell? w _ hw265_2)).trans hw265_2), ((HB.out.cell (World.block_lt_of_cell? w _ hw266_0)).trans hw266_0), ((HB.out.cell (World.block_lt_of_cell? w _ hw266_1)).trans hw266_1), ((HB.out.cell (World.block_lt_of_cell? w _ hw266_2)).trans hw266_2), ((HB.out.cell (World.block_lt_of_cell? w _ hw267_0)).trans hw267_0), ((HB.out.cell (World.block_lt_of_cell? w _ hw267_1)).trans hw267_1), ((HB.out.cell (World.block_lt_of_cell? w _ hw267_2)).trans hw267_2), ((HB.out.cell (World.block_lt_of_cell? w _ hw268_0)).trans hw268_0), ((HB.out.cell (World.block_lt_of_cell? w _ hw268_1)).trans hw268_1), ((HB.out.cell (World.block_lt_of_cell? w _ hw268_2)).trans hw268_2), ((HB.out.cell (World.block_lt_of_cell? w _ hw270_0)).trans hw270_0), ((HB.out.cell (World.block_lt_of_cell? w _ hw270_1)).trans hw270_1), ((HB.out.cell (World.block_lt_of_cell? w _ hw270_2)).trans hw270_2), ((HB.out.cell (World.block_lt_of_cell? w _ hw271_0)).trans hw271_0), ((HB.out.cell (World.block_lt_of_cell? w _ hw271_1)).trans hw271_1), ((HB.out.cell (World.block_lt_of_cell? w _ hw271_2)).trans hw271_2)⟩ (fun hHeld => ?_)
          clear hK K
          refine norm_ (a' := ?_) ?_ ?_
          rotate_left
          ·
           show Act.put _ (some 53) _ = _
           simp only [Act.put, List.setIfInBounds_toArray, List.set_cons_zero, List.set_cons_succ, i64_w, i32_w]
           rfl
          refine pure_ (i := 37) (N := some 54) (v := ?_) (a' := ?_) #[true, true, true, true, true, true, true, true, true, true, true, true, true, true, true, true, true, true, true, true, true, true, true, true, true, true, true, true, true, true, true, true, true, true, true, true, true, true, false] rfl rfl (any_of HT_.out (by kernel_rfl)) (fun _ _ _ h => h) (Or.inl ⟨by rfl, ?_⟩) ?_ ?_
          rotate_left
          ·
           intro w'
           go_simp
           with_reducible rfl
          rotate_left
          ·
           simp only [Act.put, List.setIfInBounds_toArray, List.set_cons_zero, List.set_cons_succ, i64_w, i32_w]
           rfl
          refine pure_ (i := 38) (N := some 55) (v := ?_) (a' := ?_) #[true, true, true, true, true, true, true, true, true, true, true, true, true, true, true, true, true, true, true, true, true, true, true, true, true, true, true, true, true, true, true, true, true, true, true, true, true, true, true] rfl rfl (any_of HT_.out (by kernel_rfl)) (fun _ _ _ h => h) (Or.inl ⟨by rfl, ?_⟩) ?_ ?_
          rotate_left
          ·
           intro w'
           go_simp
           with_reducible rfl
          rotate_left
          ·
           simp only [Act.put, List.setIfInBounds_toArray, List.set_cons_zero, List.set_cons_succ, i64_w, i32_w]
           rfl
          refine done_ (done_of HT_.out (by kernel_rfl)) ?_
          try go_wp2
          go_roundg k1
          case measure => have := HK1.out; omega
          case rel => exact ⟨(wrap64 (x5_1 + 1)), (by first | rfl | (simp; done) | (simp [*]; done)), H', ⟨by have := HK1.out; omega⟩, ⟨by repeat (first | (with_reducible first | exact HB.out | apply below_alloc | apply pw_below_drewN | apply below_drew1) | exact HB.out)⟩⟩
         ·
          rw [if_neg c11] at H; cases (Option.some.inj H).trans hr
        ·
         rw [if_neg c9] at H; cases (Option.some.inj H).trans hr
       ·
        rw [if_neg c7] at H; cases (Option.some.inj H).trans hr
      ·
       rw [if_neg c6] at H
       exact absurd H (by simp)
     ·
      rw [if_neg c5] at H
      exact absurd H (by simp)
    ·
     rw [if_neg c4] at H
     have c4b0 : decide (x5_1 < (l0.length : Int)) = false := decide_eq_false c4
     clear c4
     obtain rfl := Option.some.inj H
     go_wp2
     go_ret
     exact ⟨by first | rfl | (simp [errW_none, errW_some] <;> rfl) | (simp [*, errW_none, errW_some] <;> rfl), by repeat (first | (with_reducible first | exact HB.out | apply below_alloc | apply pw_below_drewN | apply below_drew1) | exact HB.out)⟩
 ·
  rw [if_neg c3] at H; cases (Option.some.inj H).trans hr
end Go.Proofs.YteapmebmgaggcaaDoor.PW
