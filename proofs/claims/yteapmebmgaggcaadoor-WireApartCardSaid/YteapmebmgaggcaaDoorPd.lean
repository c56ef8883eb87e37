import Derived.Test.YteapmebmgaggcaaDoorPb
namespace Go.Proofs.YteapmebmgaggcaaDoor.PW
open Go.RowKit Go.Proofs.YteapmebmgaggcaaDoorW.PrintWords Go.Proofs.YteapmebmgaggcaaDoorW.PrintLast Go.Proofs.YteapmebmgaggcaaDoorW.PrintMore
set_option linter.unusedVariables false
set_option linter.unusedSimpArgs false

/-! #### the pieces, one by one -/
theorem pieces_count : ∀ (n : Nat) (l : List Int), l.length ≤ n → (pieces n l).length = (l.length + 11) / 12 := by
  intro n
  induction n with
  | zero => intro l h; have : l.length = 0 := by omega
            simp [pieces, this]
  | succ n ih =>
    intro l h
    rw [pieces]
    split
    · rename_i h0; simp [h0]
    · have := ih (l.drop 12) (by rw [List.length_drop]; omega)
      rw [List.length_cons, this, List.length_drop]
      omega
theorem pieces_get : ∀ (n : Nat) (l : List Int) (i : Nat) (h : i < (pieces n l).length), (pieces n l)[i] = opAt ((l.drop (12 * i)).take 12) := by
  intro n
  induction n with
  | zero => intro l i h; simp [pieces] at h
  | succ n ih =>
    intro l i h
    by_cases h0 : l.length = 0
    · simp [pieces, h0] at h
    · have e : pieces (n + 1) l = opAt (l.take 12) :: pieces n (l.drop 12) := by rw [pieces, if_neg h0]
      have h' : i < (opAt (l.take 12) :: pieces n (l.drop 12)).length := by rw [← e]; exact h
      have e2 : (pieces (n + 1) l)[i] = (opAt (l.take 12) :: pieces n (l.drop 12))[i] := by simp only [e]
      rw [e2]
      cases i with
      | zero => simp
      | succ i =>
        have h3 : i < (pieces n (l.drop 12)).length := by simpa using h'
        rw [List.getElem_cons_succ, ih (l.drop 12) i h3, List.drop_drop]
        congr 3
        omega
/-- Not the zero operation. -/
def nz (o : S30) : Bool := !(o.f0 == 0) || (!(o.f1 == 0) || (!(o.f2 == 0) || (!(o.f3 == 0) || (!(o.f4 == 0)))))
theorem opAt_nz (p : List Int) (h : nz (opAt p) = true) : 12 ≤ p.length ∧ mayB (opOf (opAt p)) = true := by
  unfold opAt at h ⊢
  split
  · rename_i h1; rw [if_pos h1] at h; exact absurd h (by decide)
  · rename_i h1
    rw [if_neg h1] at h
    split
    · rename_i h2; exact ⟨by omega, h2⟩
    · rename_i h2; rw [if_neg h2] at h; exact absurd h (by decide)

/-! #### setups -/
theorem okS_iff (s : SU) : okS s = true ↔ 1 ≤ s.ve ∧ s.ve ≤ 24 ∧ 1 ≤ s.jo ∧ s.jo ≤ 32 ∧ 0 ≤ s.au ∧ s.au ≤ 255 ∧ 0 ≤ s.pe ∧ s.pe ≤ 255 ∧ 0 ≤ s.pa ∧ s.pa ≤ 255 := by unfold okS; simp
theorem headB_byt (s : SU) : Byt (headB s) := by
  intro x hx
  simp [headB] at hx
  omega
theorem byt_app {a b : List Int} (ha : Byt a) (hb : Byt b) : Byt (a ++ b) := fun x hx => (List.mem_append.1 hx).elim (ha x) (hb x)
theorem headB_ok {s : SU} (h : okS s = true) : headB s = [82, 82, 1, s.ve, s.jo, s.au, s.pe, s.pa] := by
  have := (okS_iff s).1 h
  unfold headB
  congr 3
  rw [Int.emod_eq_of_lt (by omega) (by omega), Int.emod_eq_of_lt (by omega) (by omega), Int.emod_eq_of_lt (by omega) (by omega), Int.emod_eq_of_lt (by omega) (by omega), Int.emod_eq_of_lt (by omega) (by omega)]
/-- What comes back of a head and what is behind it. -/
theorem dec_head {s : SU} (h : okS s = true) (b : List Int) (hl : b.length ≤ 4088) : decSpec (headB s ++ b) = (s.ve, s.jo, s.au, s.pe, s.pa, pieces (8 + b.length) b, 0) := by
  have e := headB_ok h
  have hlen : (headB s ++ b).length = 8 + b.length := by rw [List.length_append]; rfl
  unfold decSpec
  rw [if_neg (by omega), if_neg (by omega), hlen]
  rw [e]
  have hh : hdOk ([82, 82, 1, s.ve, s.jo, s.au, s.pe, s.pa] ++ b) = true := by
    unfold hdOk
    have h1 : List.take 3 ([82, 82, 1, s.ve, s.jo, s.au, s.pe, s.pa] ++ b) = [82, 82, 1] := rfl
    rw [h1]
    simpa [rd] using h
  rw [if_pos hh]
  simp [rd]
end Go.Proofs.YteapmebmgaggcaaDoor.PW
