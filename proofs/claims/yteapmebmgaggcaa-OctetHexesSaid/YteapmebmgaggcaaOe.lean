import Derived.Test.YteapmebmgaggcaaOd
namespace Go.Proofs.Yteapmebmgaggcaa
open Go.RowKit Go.Proofs.YteapmebmgaggcaaW.PrintWords
set_option linter.unusedVariables false
set_option linter.unusedSimpArgs false

theorem strOfNums_append (xs ys : List Int) : strOfNums xs ++ strOfNums ys = strOfNums (xs ++ ys) := by
  simp [strOfNums, ByteArray.mk_append_mk]
theorem dig_cut (x : Int) (h0 : 0 ≤ x) (h1 : x < 16) (W : World) : (Instr.slice 9 (.string ⟨#[48, 49, 50, 51, 52, 53, 54, 55, 56, 57, 97, 98, 99, 100, 101, 102]⟩) (some (.int .i64 x)) (some (.int .i64 (x + 1))) none).run Try.prog W = .ok (.string (strOfNums [hexd x])) W := by
  have h : x = 0 ∨ x = 1 ∨ x = 2 ∨ x = 3 ∨ x = 4 ∨ x = 5 ∨ x = 6 ∨ x = 7 ∨ x = 8 ∨ x = 9 ∨ x = 10 ∨ x = 11 ∨ x = 12 ∨ x = 13 ∨ x = 14 ∨ x = 15 := by omega
  rcases h with rfl | rfl | rfl | rfl | rfl | rfl | rfl | rfl | rfl | rfl | rfl | rfl | rfl | rfl | rfl | rfl <;> (simp [run_slice_string, Try.underlying9]; rfl)
theorem str_add (xs ys : List Int) (h : xs.length + ys.length ≤ 9223372036854775807) (W : World) : (Op.stringOp .add (strOfNums xs) (strOfNums ys)).run Try.prog W = .ok (.string (strOfNums (xs ++ ys))) W := by
  rw [run_string_add_sum W _ _ (by rw [strOfNums_size, strOfNums_size]; exact h), strOfNums_append]

/-- 'ringroadref02.Hex'. -/
theorem refhex_any (A : Option Addr) (l c : Nat) (xs : List Int) (w : World) (hb : ReadsInt w .u8 A l xs) (hx : Byt xs) (hl : l ≤ 1000000) :
    Calls Try.prog 16 #[.slice A l c] w fun e w' => e = .returned (.string (strOfNums (hexl xs))) ∧ Drawn0 w w' := by
  have hxl : Hid (xs.length = l) := Lib.hid hb.1
  go_enter Try.func16, Try.ntmps16
  go_wp2_with fail
  go_loopw [3, 4] (fun u i wr => ∃ k : Nat, k ≤ l ∧ i = .int .i64 k ∧ u = .string (strOfNums (hexl (xs.take k))) ∧ Aside0 (Drawn0 w wr)) (fun _ i _ => l - (intOf i).toNat)
  case atStart => exact ⟨0, Nat.zero_le _, rfl, rfl, ⟨Drawn0.refl _⟩⟩
  case round =>
    obtain ⟨k, hk, rfl, rfl, hB⟩ := hrel
    by_cases hlt : k < l
    · obtain ⟨ad, rfl, hc⟩ := reads_nat (hb.below hB.out.below) k (by omega)
      have hr := hx.getD k
      have hlk : (hexl (xs.take k)).length ≤ 2 * l := by rw [hexl_length, List.length_take]; omega
      have hnt : Hid (hexl (xs.take (k + 1)) = hexl (xs.take k) ++ [hexd (xs.getD k 0 / 16), hexd (xs.getD k 0 % 16)]) := Lib.hid (hexl_take xs k (by rw [hxl.out]; exact hlt))
      obtain ⟨r, hrr⟩ : ∃ r, r = xs.getD k 0 := ⟨_, rfl⟩
      rw [← hrr] at hr hnt hc
      clear hrr
      obtain ⟨HX, hHX⟩ : ∃ HX, HX = hexl (xs.take k) := ⟨_, rfl⟩
      rw [← hHX] at hnt hlk ⊢
      clear hHX
      have hd1 := dig_cut (r / 16) (by omega) (by omega)
      have hd2 := dig_cut (r % 16) (by omega) (by omega)
      obtain ⟨d1, hd1'⟩ : ∃ d1, d1 = hexd (r / 16) := ⟨_, rfl⟩
      obtain ⟨d2, hd2'⟩ : ∃ d2, d2 = hexd (r % 16) := ⟨_, rfl⟩
      rw [← hd1'] at hd1 hnt
      rw [← hd2'] at hd2 hnt
      clear hd1' hd2'
      have ha1 := str_add HX [d1] (by simp; omega)
      have ha2 := str_add (HX ++ [d1]) [d2] (by simp; omega)
      go_wp2_with fail
      go_quiet (fail)
      go_wp2_with fail
      go_roundw
      case rel => exact ⟨k + 1, by omega, by go_num, by rw [hnt.out], ⟨hB.out.step nq⟩⟩
      case measure => simp [intOf]; omega
    · obtain rfl : k = l := by omega
      rw [List.take_of_length_le (by rw [hxl.out]; omega)]
      go_wp2_with fail
      go_ret
      exact ⟨rfl, hB.out⟩

/-- A sign's digit, -1: it is none. -/
def digv (c : Int) : Int := if 48 ≤ c ∧ c ≤ 57 then c - 48 else if 97 ≤ c ∧ c ≤ 102 then c - 97 + 10 else -1
theorem digv_range (c : Int) : -1 ≤ digv c ∧ digv c < 16 := by unfold digv; split <;> (try split) <;> omega
/-- 'ringroadref02.digit'. -/
theorem digit_any (c : Int) (w : World) (h0 : 0 ≤ c) (h1 : c < 256) :
    Calls Try.prog 19 #[.int .u8 c] w fun e w' => e = .returned (.int .i64 (digv c)) ∧ w = w' := by
  unfold digv
  by_cases ha : 48 ≤ c
  · by_cases hb : c ≤ 57
    · rw [if_pos ⟨ha, hb⟩]
      go_enter Try.func19, Try.ntmps19
      go_wp2_with fail
      go_ret
      exact ⟨rfl, rfl⟩
    · rw [if_neg (by omega)]
      by_cases hc : 97 ≤ c
      · by_cases hd : c ≤ 102
        · rw [if_pos ⟨hc, hd⟩]
          go_enter Try.func19, Try.ntmps19
          go_wp2_with fail
          go_ret
          exact ⟨rfl, rfl⟩
        · rw [if_neg (by omega)]
          go_enter Try.func19, Try.ntmps19
          go_wp2_with fail
          go_ret
          exact ⟨rfl, rfl⟩
      · rw [if_neg (by omega)]
        go_enter Try.func19, Try.ntmps19
        go_wp2_with fail
        go_ret
        exact ⟨rfl, rfl⟩
  · rw [if_neg (by omega), if_neg (by omega)]
    have hc : ¬ 97 ≤ c := by omega
    go_enter Try.func19, Try.ntmps19
    go_wp2_with fail
    go_ret
    exact ⟨rfl, rfl⟩
end Go.Proofs.Yteapmebmgaggcaa
