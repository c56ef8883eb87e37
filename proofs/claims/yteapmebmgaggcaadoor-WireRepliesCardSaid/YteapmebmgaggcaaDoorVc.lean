import Derived.Test.YteapmebmgaggcaaDoorVb
import Derived.Test.YteapmebmgaggcaaDoorWd
namespace Go.Proofs.YteapmebmgaggcaaDoor.PW
open Go.RowKit Go.Proofs.YteapmebmgaggcaaDoorW.PrintWords Go.Proofs.YteapmebmgaggcaaDoorW.PrintLast Go.Proofs.YteapmebmgaggcaaDoorW.PrintMore
set_option linter.unusedVariables false
set_option linter.unusedSimpArgs false

def wire_May.f (a0_0 : Int) (a0_1 : Int) (a0_2 : Int) (a0_3 : Int) (a0_4 : Int) : Option (Bool) := some (mayB ⟨a0_0, a0_1, a0_2, a0_3, a0_4⟩)
theorem wire_May.calls (a0_0 : Int) (a0_1 : Int) (a0_2 : Int) (a0_3 : Int) (a0_4 : Int) (r : Bool) (w : World) (hN : NeedsOk w) (h : wire_May.f a0_0 a0_1 a0_2 a0_3 a0_4 = some r) :
    Calls Tryd.prog 12 #[.agg #[.int .i64 a0_0, .int .i64 a0_1, .int .i64 a0_2, .int .i64 a0_3, .int .u64 a0_4]] w fun e w' => e = .returned (.bool r) ∧ Below w.heap.size w w' := by
  obtain rfl := Option.some.inj h
  exact wmay_any ⟨a0_0, a0_1, a0_2, a0_3, a0_4⟩ w hN

/-! #### ContainsFunc of what may not be -/
theorem notmay_any (o : OP) (w : World) (hN : NeedsOk w) : Calls Tryd.prog 29 #[o.val] w fun e w' => e = .returned (.bool (!mayB o)) ∧ Below w.heap.size w w' := by
  obtain ⟨k, a, b, c, x⟩ := o
  unfold OP.val
  dsimp only
  have hM := Aside0.mk (fun W (h : NeedsOk W) => wmay_any ⟨k, a, b, c, x⟩ W h)
  unfold OP.val at hM
  dsimp only at hM
  have hN' : Aside0 (NeedsOk w) := ⟨hN⟩
  clear hN
  go_enter Tryd.func29, Tryd.ntmps29
  go_wp2_with (go_at_call 12; refine (hM.out _ (needs_now hN' ((Below.refl _ _).alloc (Nat.le_refl _) _))).mono ?_; rintro e w1 ⟨rfl, hB1⟩; replace hB1 := Aside0.mk hB1)
  go_ret
  exact ⟨rfl, below_then ((Below.refl _ _).alloc (Nat.le_refl _) _) (by simp) hB1.out⟩
def opOf (s : S30) : OP := ⟨s.f0, s.f1, s.f2, s.f3, s.f4⟩
/-- The first that may not be, or -1. -/
def idxN : List S30 → Nat → Int
  | [], _ => -1
  | o :: r, k => if mayB (opOf o) = true then idxN r (k + 1) else k
theorem idxN_skip (l : List S30) (k n : Nat) (hk : k ≤ l.length) (h : ∀ j, j < k → mayB (opOf (l.getD j z30)) = true) : idxN l n = idxN (l.drop k) (n + k) := by
  induction k generalizing l n with
  | zero => rfl
  | succ k ih =>
    cases l with
    | nil => simp at hk
    | cons o r =>
      have h0 : mayB (opOf o) = true := h 0 (by omega)
      rw [idxN, if_pos h0, List.drop_succ_cons, ih r (n + 1) (by simp at hk; omega) (fun j hj => by have := h (j + 1) (by omega); simpa using this)]
      congr 1
      omega
theorem idxN_neg (l : List S30) (n : Nat) : (idxN l n < 0) = (l.all (fun o => mayB (opOf o)) = true) := by
  induction l generalizing n with
  | nil => simp [idxN]
  | cons o r ih =>
    unfold idxN
    by_cases h : mayB (opOf o) = true
    · rw [if_pos h, ih]; simp [h]
    · rw [if_neg h]
      have : ¬ ((n : Int) < 0) := by omega
      simp [h, this]
theorem index_any (A : Option Addr) (c : Nat) (l : List S30) (w : World) (hr : Kd.C k30 w A l.length l) (hc : l.length ≤ c) (hN : NeedsOk w) :
    Calls Tryd.prog 41 #[.slice A l.length c, .func (.func 29) #[] #[]] w fun e w' => e = .returned (.int .i64 (idxN l 0)) ∧ Below w.heap.size w w' := by
  have hr' := Aside0.mk hr
  have hN' : Aside0 (NeedsOk w) := ⟨hN⟩
  have hM := Aside0.mk (fun o W (h : NeedsOk W) => notmay_any o W h)
  have hlb : l.length ≤ 9223372036854775807 := hr.2.1
  clear hr hN
  go_enter Tryd.func41, Tryd.ntmps41
  go_wp2_with fail
  go_loopw [8] (fun i wr => ∃ k : Nat, k ≤ l.length ∧ i = .int .i64 k ∧ Aside0 (∀ j, j < k → mayB (opOf (l.getD j z30)) = true) ∧ Aside0 (Below w.heap.size w wr)) (fun i _ => l.length - (intOf i).toNat)
  case atStart => exact ⟨0, Nat.zero_le _, rfl, ⟨fun j h => absurd h (Nat.not_lt_zero j)⟩, ⟨Below.refl _ _⟩⟩
  case round =>
    obtain ⟨k, hk, rfl, hK, hB⟩ := hrel
    by_cases hlt : k < l.length
    · obtain ⟨ad, rfl, h0, h1, h2, h3, h4⟩ := at_T30 (Kd.C_below hr'.out hB.out) k (by omega) (by omega)
      rw [Int.toNat_natCast] at h0 h1 h2 h3 h4
      obtain ⟨o, ho⟩ : ∃ o, o = l.getD k z30 := ⟨_, rfl⟩
      have ho2 : rd_T30 l k = o := by rw [ho]; unfold rd_T30; rw [Int.toNat_natCast]
      rw [ho2] at h0 h1 h2 h3 h4
      clear ho2
      replace ho := Aside0.mk ho
      by_cases hmb : mayB (opOf o) = true
      · have hm := Aside0.mk (hM.out (opOf o))
        rw [hmb] at hm
        have hmb' := Aside0.mk hmb
        clear hmb
        unfold opOf OP.val at hm
        dsimp only at hm
        go_wp2_with (go_at_call 29; refine (hm.out _ (needs_now hN' hB.out)).mono ?_; rintro e w1 ⟨rfl, hB1⟩; replace hB1 := Aside0.mk (below_step hB.out hB1))
        go_roundw
        case rel => exact ⟨k + 1, by omega, by go_num, ⟨fun j hj => by
          rcases Nat.lt_or_ge j k with h | h
          · exact hK.out j h
          · obtain rfl : j = k := by omega
            rw [← ho.out]; exact hmb'.out⟩, hB1⟩
        case measure => simp [intOf]; omega
      · have hm := Aside0.mk (hM.out (opOf o))
        have hmb' := Aside0.mk hmb
        replace hmb := Bool.eq_false_iff.2 hmb
        rw [hmb] at hm
        clear hmb
        have hI := Aside0.mk (show idxN l 0 = (k : Int) from by
          rw [idxN_skip l k 0 hk hK.out, List.drop_eq_getElem_cons hlt, idxN, if_neg (by have h := hmb'.out; rw [ho.out, List.getD_eq_getElem?_getD, List.getElem?_eq_getElem hlt] at h; exact h)]
          simp)
        unfold opOf OP.val at hm
        dsimp only at hm
        go_wp2_with (go_at_call 29; refine (hm.out _ (needs_now hN' hB.out)).mono ?_; rintro e w1 ⟨rfl, hB1⟩; replace hB1 := Aside0.mk (below_step hB.out hB1))
        go_ret
        exact ⟨congrArg (fun z => Ending.returned (Value.int .i64 z)) hI.out.symm, hB1.out⟩
    · obtain rfl : k = l.length := by omega
      have hI := Aside0.mk (show idxN l 0 = -1 from by
        rw [idxN_skip l l.length 0 hk hK.out, List.drop_length]; rfl)
      go_wp2_with fail
      go_ret
      exact ⟨congrArg (fun z => Ending.returned (Value.int .i64 z)) hI.out.symm, hB.out⟩
def api_Op_28.f (l0 : List (S30)) : Option (Bool) := some (!l0.all fun o => mayB (opOf o))
theorem api_Op_28.calls (A0 : Option Addr) (c0 : Nat) (l0 : List (S30)) (r : Bool) (w : World) (hr0 : Kd.C k30 w A0 l0.length l0) (hc0 : l0.length ≤ c0) (hN : NeedsOk w) (h : api_Op_28.f l0 = some r) :
    Calls Tryd.prog 28 #[.slice A0 l0.length c0, .func (.func 29) #[] #[]] w fun e w' => e = .returned (.bool r) ∧ Below w.heap.size w w' := by
  obtain rfl := Option.some.inj h
  have hM := Aside0.mk (index_any A0 c0 l0 w hr0 hc0 hN)
  have hx : (decide (0 ≤ idxN l0 0)) = (!l0.all fun o => mayB (opOf o)) := by
    have hq := idxN_neg l0 0
    by_cases h : idxN l0 0 < 0
    · rw [decide_eq_false (by omega)]
      rw [hq] at h
      simp [h]
    · rw [decide_eq_true (by omega)]
      rw [hq] at h
      simp [Bool.eq_false_iff.2 h]
  rw [← hx]
  clear hr0 hc0 hN h hx
  obtain ⟨i, hi⟩ : ∃ i, i = idxN l0 0 := ⟨_, rfl⟩
  rw [← hi] at hM ⊢
  clear hi
  go_enter Tryd.func28, Tryd.ntmps28
  go_wp2_with (go_at_call 41; refine hM.out.mono ?_; rintro e w1 ⟨rfl, hB1⟩; replace hB1 := Aside0.mk hB1)
  go_ret
  exact ⟨rfl, hB1.out⟩
end Go.Proofs.YteapmebmgaggcaaDoor.PW
