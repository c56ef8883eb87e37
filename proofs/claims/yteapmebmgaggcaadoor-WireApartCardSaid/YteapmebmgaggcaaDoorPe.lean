import Derived.Test.YteapmebmgaggcaaDoorPd
namespace Go.Proofs.YteapmebmgaggcaaDoor.PW
open Go.RowKit Go.Proofs.YteapmebmgaggcaaDoorW.PrintWords Go.Proofs.YteapmebmgaggcaaDoorW.PrintLast Go.Proofs.YteapmebmgaggcaaDoorW.PrintMore
set_option linter.unusedVariables false
set_option linter.unusedSimpArgs false

/-! #### operations there and back -/
theorem numb_low8 (v : Int) (h0 : 0 ≤ v) (h1 : v < 18446744073709551616) : numb (low 8 v) = v := by
  have e : low 8 v = [v / 72057594037927936 % 256, v / 281474976710656 % 256, v / 1099511627776 % 256, v / 4294967296 % 256, v / 16777216 % 256, v / 65536 % 256, v / 256 % 256, v % 256] := by
    simp [low]
  rw [e]
  unfold numb
  simp only [List.foldl_cons, List.foldl_nil]
  omega
theorem opB_byt (o : S30) : Byt (opB o) := by
  unfold opB
  refine byt_app ?_ (low_byt 8 o.f4)
  intro x hx
  simp at hx
  omega
theorem opsB_byt (l : List S30) : Byt (opsB l) := by
  intro x hx
  unfold opsB at hx
  obtain ⟨o, _, ho⟩ := List.mem_flatMap.1 hx
  exact opB_byt o x ho
theorem may_range {o : S30} (h : mayB (opOf o) = true) : 1 ≤ o.f0 ∧ o.f0 ≤ 14 ∧ 0 ≤ o.f1 ∧ o.f1 ≤ 255 ∧ 0 ≤ o.f2 ∧ o.f2 ≤ 255 ∧ 0 ≤ o.f3 ∧ o.f3 ≤ 255 := by
  unfold mayB opOf at h
  rw [Bool.and_eq_true] at h
  simpa using h.1
theorem opB_eq {o : S30} (h : mayB (opOf o) = true) : opB o = [o.f0, o.f1, o.f2, o.f3] ++ low 8 o.f4 := by
  have := may_range h
  unfold opB
  rw [Int.emod_eq_of_lt (by omega) (by omega), Int.emod_eq_of_lt (by omega) (by omega), Int.emod_eq_of_lt (by omega) (by omega), Int.emod_eq_of_lt (by omega) (by omega)]
theorem opAt_opB {o : S30} (h : mayB (opOf o) = true) (h0 : 0 ≤ o.f4) (h1 : o.f4 < 18446744073709551616) : opAt (opB o) = o := by
  have hl := opB_length o
  unfold opAt
  rw [if_neg (by omega), opB_eq h]
  have hn : numb ((([o.f0, o.f1, o.f2, o.f3] ++ low 8 o.f4).drop 4).take 8) = o.f4 := by
    have : (([o.f0, o.f1, o.f2, o.f3] ++ low 8 o.f4).drop 4) = low 8 o.f4 := rfl
    rw [this, List.take_of_length_le (by rw [low_length]; exact Nat.le_refl _), numb_low8 _ h0 h1]
  rw [hn]
  have hr : (⟨rd ([o.f0, o.f1, o.f2, o.f3] ++ low 8 o.f4) 0, rd ([o.f0, o.f1, o.f2, o.f3] ++ low 8 o.f4) 1, rd ([o.f0, o.f1, o.f2, o.f3] ++ low 8 o.f4) 2, rd ([o.f0, o.f1, o.f2, o.f3] ++ low 8 o.f4) 3, o.f4⟩ : OP) = opOf o := rfl
  rw [hr, if_pos h]
  rfl
theorem mayAll_cons (o : S30) (l : List S30) : mayAll (o :: l) = true ↔ mayB (opOf o) = true ∧ mayAll l = true := by unfold mayAll; simp
theorem pieces_ops : ∀ (l : List S30) (n : Nat), 12 * l.length ≤ n → mayAll l = true → U64s l → pieces n (opsB l) = l := by
  intro l
  induction l with
  | nil => intro n _ _ _; cases n <;> simp [pieces, opsB]
  | cons o r ih =>
    intro n hn hm hu
    obtain ⟨h1, h2⟩ := (mayAll_cons o r).1 hm
    obtain ⟨n, rfl⟩ : ∃ j, n = j + 1 := ⟨n - 1, by simp at hn; omega⟩
    have e : opsB (o :: r) = opB o ++ opsB r := by simp [opsB]
    have ho := hu o (by simp)
    rw [e, pieces, if_neg (by rw [List.length_append, opB_length]; omega), List.take_left' (opB_length o), List.drop_left' (opB_length o), opAt_opB h1 ho.1 ho.2, ih n (by simp at hn; omega) h2 (fun x hx => hu x (by simp [hx]))]
theorem dec_enc {s : SU} {l : List S30} (h : okS s = true) (hm : mayAll l = true) (hl : l.length ≤ 340) (hu : U64s l) : decSpec (headB s ++ opsB l) = (s.ve, s.jo, s.au, s.pe, s.pa, l, 0) := by
  rw [dec_head h _ (by rw [opsB_length]; omega), pieces_ops l _ (by rw [opsB_length]; omega) hm hu]
end Go.Proofs.YteapmebmgaggcaaDoor.PW
