import Derived.Test.YteapmebmgaggcaaDoorOa
import Derived.Deep.QuietTactic
import Derived.BigQuiet
namespace Go.Proofs.YteapmebmgaggcaaDoor
open Go.RowKit Go.Proofs.YteapmebmgaggcaaDoorW.PrintWords
set_option linter.unusedVariables false
set_option linter.unusedSimpArgs false

/-- 'ringroadref02.Number'. -/
theorem number_any (A : Option Addr) (l c : Nat) (xs : List Int) (w : World) (hb : ReadsInt w .u8 A l xs) (hx : Byt xs) (hl : l ≤ 8) :
    Calls Tryd.prog 34 #[.slice A l c] w fun e w' => e = .returned (.int .u64 (numb xs)) ∧ w = w' := by
  have hxl : Hid (xs.length = l) := Lib.hid hb.1
  go_enter Tryd.func34, Tryd.ntmps34
  go_wp2_with fail
  go_loop [3, 4] (fun u i => ∃ k : Nat, k ≤ l ∧ i = .int .i64 k ∧ u = .int .u64 (numb (xs.take k))) (fun _ i => l - (intOf i).toNat)
  case atStart => exact ⟨0, Nat.zero_le _, rfl, rfl⟩
  case round =>
    obtain ⟨k, hk, rfl, rfl⟩ := hrel
    by_cases hlt : k < l
    · obtain ⟨ad, rfl, hc⟩ := reads_nat hb k hlt
      have h8 := numb_lt8 hx k (by omega)
      have hr := hx.getD k
      have hnt : Hid (numb (xs.take (k + 1)) = numb (xs.take k) * 256 + xs.getD k 0) := Lib.hid (numb_take xs k (by rw [hxl.out]; exact hlt))
      obtain ⟨q, hq⟩ : ∃ q, q = numb (xs.take k) := ⟨_, rfl⟩
      rw [← hq] at h8 hnt ⊢
      obtain ⟨r, hrr⟩ : ∃ r, r = xs.getD k 0 := ⟨_, rfl⟩
      have hc' : w.cell? (ad.add k) = some (.int .u8 r) := by rw [hc, hrr]
      rw [← hrr] at hr hnt
      clear hc hq hrr
      go_wp2_with fail
      go_round
      case rel => exact ⟨k + 1, by omega, by go_num, by rw [hnt.out]; go_num⟩
      case measure => simp [intOf]; omega
    · obtain rfl : k = l := by omega
      rw [List.take_of_length_le (by rw [hxl.out]; omega)]
      go_wp2_with fail
      go_ret
      exact ⟨rfl, rfl⟩

/-- 'octet.Get', a width that may not be. -/
theorem get_arg (A : Option Addr) (l c : Nat) (a1 : Int) (w : World) (h : a1 < 0 ∨ 8 < a1) :
    Calls Tryd.prog 42 #[.slice A l c, .int .i64 a1] w fun e w' => e = .returned (.tuple #[.int .u64 0, .slice none 0 0, .int .i64 1]) ∧ w = w' := by
  rcases h with h | h
  · go_enter Tryd.func42, Tryd.ntmps42
    go_wp2_with fail
    go_ret3
    exact ⟨rfl, rfl⟩
  · have h0 : ¬ a1 < 0 := by omega
    go_enter Tryd.func42, Tryd.ntmps42
    go_wp2_with fail
    go_ret3
    exact ⟨rfl, rfl⟩
/-- Too few bytes. -/
theorem get_short (A : Option Addr) (l c : Nat) (a1 : Int) (w : World) (h0 : 0 ≤ a1) (h8 : a1 ≤ 8) (h : (l : Int) < a1) :
    Calls Tryd.prog 42 #[.slice A l c, .int .i64 a1] w fun e w' => e = .returned (.tuple #[.int .u64 0, .slice none 0 0, .int .i64 7]) ∧ w = w' := by
  go_enter Tryd.func42, Tryd.ntmps42
  go_wp2_with fail
  go_ret3
  exact ⟨rfl, rfl⟩
theorem get_ok (A : Option Addr) (l c : Nat) (xs : List Int) (a1 : Int) (w : World) (hb : ReadsInt w .u8 A l xs) (hx : Byt xs) (hlc : l ≤ c) (h0 : 0 ≤ a1) (h8 : a1 ≤ 8) (h : a1 ≤ (l : Int)) :
    Calls Tryd.prog 42 #[.slice A l c, .int .i64 a1] w fun e w' => ∃ A' : Option Addr, e = .returned (.tuple #[.int .u64 (numb (xs.take a1.toNat)), .slice A' (l - a1.toNat) (c - a1.toNat), .int .i64 0]) ∧ ReadsInt w' .u8 A' (l - a1.toNat) (xs.drop a1.toNat) ∧ Drawn0 w w' := by
  obtain ⟨n, rfl⟩ := Int.eq_ofNat_of_zero_le h0
  rw [Int.toNat_natCast]
  have hxl : Hid (xs.length = l) := Lib.hid hb.1
  obtain ⟨i0, hi, hzz⟩ := Option.map_eq_some_iff.1 infoU8
  simp only [Prod.mk.injEq] at hzz
  obtain ⟨A1, hcut, hA1⟩ := print_cut (P := Tryd.prog) 31 5 .i64 Tryd.underlying31 hi hzz.2.1 A l c n (by omega)
  have hA1' : ReadsInt w .u8 A1 (l - n) (xs.drop n) := hA1 w .u8 xs hlc hb
  clear hzz hi hA1
  go_enter Tryd.func42, Tryd.ntmps42
  go_wp2_with fail
  go_loop [7, 22] (fun u i => ∃ k : Nat, k ≤ n ∧ i = .int .i64 k ∧ u = .int .u64 (numb (xs.take k))) (fun _ i => n - (intOf i).toNat)
  case atStart => exact ⟨0, Nat.zero_le _, rfl, rfl⟩
  case round =>
    obtain ⟨k, hk, rfl, rfl⟩ := hrel
    by_cases hlt : k < n
    · obtain ⟨ad, rfl, hc⟩ := reads_nat hb k (by omega)
      have hkl : k < l := by omega
      have h8 := numb_lt8 hx k (by omega)
      have hr := hx.getD k
      have hnt : Hid (numb (xs.take (k + 1)) = bits .or .u64 (numb (xs.take k) * 256) (xs.getD k 0)) := Lib.hid (by rw [or_byte _ _ h8.1 h8.2 hr.1 hr.2]; exact numb_take xs k (by rw [hxl.out]; omega))
      obtain ⟨q, hq⟩ : ∃ q, q = numb (xs.take k) := ⟨_, rfl⟩
      rw [← hq] at h8 hnt ⊢
      obtain ⟨r, hrr⟩ : ∃ r, r = xs.getD k 0 := ⟨_, rfl⟩
      have hc' : w.cell? (ad.add k) = some (.int .u8 r) := by rw [hc, hrr]
      rw [← hrr] at hr hnt
      clear hc hq hrr
      go_wp2_with fail
      go_round
      case rel => exact ⟨k + 1, by omega, by go_num, by rw [hnt.out]⟩
      case measure => simp [intOf]; omega
    · obtain rfl : k = n := by omega
      go_wp2_with fail
      go_quiet (fail)
      go_wp2_with fail
      go_ret3
      exact ⟨_, rfl, hA1', ⟨⟨_, rfl⟩⟩⟩
end Go.Proofs.YteapmebmgaggcaaDoor
