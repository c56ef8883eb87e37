import Derived.Test.YteapmebmgaggcaaDoorPb
import Derived.Test.YteapmebmgaggcaaDoorVj
namespace Go.Proofs.YteapmebmgaggcaaDoor.PW
open Go.RowKit Go.Proofs.YteapmebmgaggcaaDoorW.PrintWords Go.Proofs.YteapmebmgaggcaaDoorW.PrintLast Go.Proofs.YteapmebmgaggcaaDoorW.PrintMore
set_option linter.unusedVariables false
set_option linter.unusedSimpArgs false

/-! #### the document's Decode -/
theorem rd_cut (l : List Int) (i j : Nat) (hj : j < 12) : rd l ((i + j : Nat) : Int) = rd ((l.drop i).take 12) (j : Int) := by
  unfold rd
  rw [List.getD_eq_getElem?_getD, List.getD_eq_getElem?_getD, List.getElem?_take, if_pos (by omega), List.getElem?_drop]
  rfl
theorem rd_cut0 (l : List Int) (i : Nat) : rd l (i : Int) = rd ((l.drop i).take 12) 0 := rd_cut l i 0 (by omega)
theorem num_cut (l : List Int) (i : Nat) : (l.take (i + 12)).drop (i + 4) = (((l.drop i).take 12).drop 4).take 8 := by
  rw [List.drop_take, List.drop_take, List.drop_drop, List.take_take]
  congr 1
  omega
theorem refdec_l0 : ∀ (n k : Nat) (x0 : List Int) (x6 : List S30) (i : Nat) (s0 s1 s2 s3 s4 : Int), Byt x0 → x0.length ≤ i + n → n < k → x6.length + n < 3518437208883 → i + 12 * n < 1000000 →
    ringroadref26_Decode.l0 k x0 x6 (i : Int) s0 s1 s2 s3 s4 = some (s0, s1, s2, s3, s4, x6 ++ pieces n (x0.drop i), 0) := by
  intro n
  induction n with
  | zero =>
    intro k x0 x6 i s0 s1 s2 s3 s4 hb hl hk hs hm
    obtain ⟨k, rfl⟩ : ∃ j, k = j + 1 := ⟨k - 1, by omega⟩
    rw [ringroadref26_Decode.l0, if_neg (by omega)]
    simp [pieces]
  | succ n ih =>
    intro k x0 x6 i s0 s1 s2 s3 s4 hb hl hk hs hm
    obtain ⟨k, rfl⟩ : ∃ j, k = j + 1 := ⟨k - 1, by omega⟩
    rw [ringroadref26_Decode.l0]
    by_cases hz : x0.length ≤ i
    · rw [if_neg (by omega)]
      have : (x0.drop i).length = 0 := by rw [List.length_drop]; omega
      rw [pieces, if_pos this, List.append_nil]
    · have e12 : wrap64 ((i : Int) + 12) = ((i + 12 : Nat) : Int) := by rw [wz (by omega) (by omega)]; omega
      have hp : (x0.drop i).length ≠ 0 := by rw [List.length_drop]; omega
      rw [if_pos (show (i : Int) < (x0.length : Int) by omega), e12, pieces, if_neg hp, List.drop_drop]
      have hst : ∀ (y : S30), ringroadref26_Decode.l0 k x0 (x6 ++ [y]) ((i + 12 : Nat) : Int) s0 s1 s2 s3 s4 = some (s0, s1, s2, s3, s4, x6 ++ (y :: pieces n (x0.drop (i + 12))), 0) := by
        intro y
        rw [ih k x0 (x6 ++ [y]) (i + 12) s0 s1 s2 s3 s4 hb (by omega) (by omega) (by simp; omega) (by omega), List.append_assoc]; rfl
      by_cases hc : i + 12 ≤ x0.length
      · have e1 : wrap64 ((i : Int) + 1) = ((i + 1 : Nat) : Int) := by rw [wz (by omega) (by omega)]; omega
        have e2 : wrap64 ((i : Int) + 2) = ((i + 2 : Nat) : Int) := by rw [wz (by omega) (by omega)]; omega
        have e3 : wrap64 ((i : Int) + 3) = ((i + 3 : Nat) : Int) := by rw [wz (by omega) (by omega)]; omega
        have e4 : wrap64 ((i : Int) + 4) = ((i + 4 : Nat) : Int) := by rw [wz (by omega) (by omega)]; omega
        rw [if_pos (show ((i + 12 : Nat) : Int) ≤ (x0.length : Int) by omega), e1, e2, e3, e4]
        rw [if_pos (show (0 : Int) ≤ (i : Int) by omega), if_pos (show (0 : Int) ≤ ((i + 1 : Nat) : Int) by omega), if_pos (show ((i + 1 : Nat) : Int) < (x0.length : Int) by omega), if_pos (show (0 : Int) ≤ ((i + 2 : Nat) : Int) by omega), if_pos (show ((i + 2 : Nat) : Int) < (x0.length : Int) by omega), if_pos (show (0 : Int) ≤ ((i + 3 : Nat) : Int) by omega), if_pos (show ((i + 3 : Nat) : Int) < (x0.length : Int) by omega), if_pos (show (0 : Int) ≤ ((i + 4 : Nat) : Int) by omega), if_pos (show ((i + 4 : Nat) : Int) ≤ ((i + 12 : Nat) : Int) by omega)]
        rw [Int.toNat_natCast, Int.toNat_natCast, num_cut]
        have hbp : Byt ((x0.drop i).take 12) := byt_take (byt_drop hb i) 12
        have hlen : ((x0.drop i).take 12).length = 12 := by rw [List.length_take, List.length_drop]; omega
        have hnum : ringroadref02_Number.f k ((((x0.drop i).take 12).drop 4).take 8) = some (numb ((((x0.drop i).take 12).drop 4).take 8)) := by
          unfold ringroadref02_Number.f
          rw [if_pos ⟨by rw [List.length_take]; omega, bytB_of (byt_take (byt_drop hbp 4) 8)⟩]
        rw [hnum, Option.bind_some, wr_byt hb, wr_byt hb, wr_byt hb, wr_byt hb, rd_cut0 x0 i, rd_cut x0 i 1 (by omega), rd_cut x0 i 2 (by omega), rd_cut x0 i 3 (by omega)]
        unfold ringroadref26_May.f
        rw [Option.bind_some]
        unfold opAt
        rw [if_neg (show ¬ ((x0.drop i).take 12).length < 12 by omega)]
        cases hM : mayB ⟨rd ((x0.drop i).take 12) 0, rd ((x0.drop i).take 12) ((1 : Nat) : Int), rd ((x0.drop i).take 12) ((2 : Nat) : Int), rd ((x0.drop i).take 12) ((3 : Nat) : Int), numb ((((x0.drop i).take 12).drop 4).take 8)⟩
        · rw [if_neg (by simp), if_pos (by omega), hst]
          rfl
        · rw [if_pos rfl, if_pos (by omega), hst]
          rfl
      · rw [if_neg (show ¬ ((i + 12 : Nat) : Int) ≤ (x0.length : Int) by omega), if_pos (by omega), hst]
        unfold opAt
        rw [if_pos (by rw [List.length_take, List.length_drop]; omega)]
        rfl
theorem take3 {l : List Int} (h : 8 ≤ l.length) : l.take 3 = [82, 82, 1] ↔ rd l 0 = 82 ∧ rd l 1 = 82 ∧ rd l 2 = 1 := by
  rcases l with _ | ⟨a, _ | ⟨b, _ | ⟨c, r⟩⟩⟩
  · simp at h
  · simp at h
  · simp at h
  · simp [rd]
theorem refdecode_val (l : List Int) (hb : Byt l) (k : Nat) (hk : l.length + 1 < k) : ringroadref26_Decode.f k l = some (decSpec l) := by
  unfold ringroadref26_Decode.f decSpec
  by_cases h1 : l.length > 4096
  · rw [if_pos (show (l.length : Int) > 4096 by omega), if_pos h1]
  · rw [if_neg (show ¬ (l.length : Int) > 4096 by omega), if_neg h1]
    by_cases h2 : l.length < 8
    · rw [if_pos (show (l.length : Int) < 8 by omega), if_pos h2]
    · rw [if_neg (show ¬ (l.length : Int) < 8 by omega), if_neg h2]
      rw [if_pos (show (3 : Int) < (l.length : Int) by omega), if_pos (show (4 : Int) < (l.length : Int) by omega), if_pos (show (5 : Int) < (l.length : Int) by omega), if_pos (show (6 : Int) < (l.length : Int) by omega), if_pos (show (7 : Int) < (l.length : Int) by omega), if_pos (show (0 : Int) < (l.length : Int) by omega), if_pos (show (1 : Int) < (l.length : Int) by omega), if_pos (show (2 : Int) < (l.length : Int) by omega)]
      simp only [wr_byt hb]
      obtain ⟨k, rfl⟩ : ∃ j, k = j + 1 := ⟨k - 1, by omega⟩
      unfold hdOk ringroadref26_Setup.f
      have h8 : 8 ≤ l.length := by omega
      have hj : ringroadref26_Decode.j0 (k + 1) l true (rd l 3) (rd l 4) (rd l 5) (rd l 6) (rd l 7) = some (0, 0, 0, 0, 0, [], 8) := by rw [ringroadref26_Decode.j0]; rfl
      by_cases h3 : l.take 3 = [82, 82, 1]
      · obtain ⟨a, b, c⟩ := (take3 h8).1 h3
        rw [if_pos a, if_pos b, if_pos c, Option.bind_some]
        cases h4 : okS ⟨rd l 3, rd l 4, rd l 5, rd l 6, rd l 7⟩
        · rw [show (!false) = true from rfl, hj]
          simp
        · rw [show (!true) = false from rfl, ringroadref26_Decode.j0, if_neg (show ¬ (false = true) by decide)]
          have := refdec_l0 l.length k l [] 8 (rd l 3) (rd l 4) (rd l 5) (rd l 6) (rd l 7) hb (by omega) (by omega) (by simp; omega) (by omega)
          rw [show ((8 : Nat) : Int) = 8 from rfl] at this
          rw [this]
          simp [h3]
      · have h5 : ¬ (rd l 0 = 82 ∧ rd l 1 = 82 ∧ rd l 2 = 1) := fun h => h3 ((take3 h8).2 h)
        rw [hj]
        by_cases a : rd l 0 = 82
        · rw [if_pos a]
          by_cases b : rd l 1 = 82
          · rw [if_pos b]
            by_cases c : rd l 2 = 1
            · exact absurd ⟨a, b, c⟩ h5
            · rw [if_neg c]; simp [h3]
          · rw [if_neg b]; simp [h3]
        · rw [if_neg a]; simp [h3]
end Go.Proofs.YteapmebmgaggcaaDoor.PW
