import Derived.Test.YteapmebmgaggcaaOe
import Derived.Lib.OthersKept
namespace Go.Proofs.Yteapmebmgaggcaa
open Go.RowKit Go.Proofs.YteapmebmgaggcaaW.PrintWords
set_option linter.unusedVariables false
set_option linter.unusedSimpArgs false

theorem hexd_range (d : Int) (h0 : 0 ≤ d) (h1 : d < 16) : 48 ≤ hexd d ∧ hexd d ≤ 102 := by unfold hexd; split <;> omega
theorem digv_hexd (d : Int) (h0 : 0 ≤ d) (h1 : d < 16) : digv (hexd d) = d := by unfold hexd digv; split <;> split <;> (try split) <;> omega
theorem hexd_digv (c : Int) (h : 0 ≤ digv c) : hexd (digv c) = c := by unfold digv at h ⊢; unfold hexd; split <;> (try split) <;> (try split) <;> (try split at h) <;> (try split at h) <;> omega
theorem digv_none (c : Int) (h : ∀ j : Nat, j < 16 → hexd j ≠ c) : digv c = -1 := by
  rcases Int.lt_or_le (digv c) 0 with h0 | h0
  · have := digv_range c; omega
  · exfalso
    have := digv_range c
    refine h (digv c).toNat (by omega) ?_
    rw [Int.toNat_of_nonneg h0]
    exact hexd_digv c h0
theorem dig_next (w : World) (k : Nat) (h : k < 16) (ty : TypeId) : (Instr.next (.pointer (some ⟨w.heap.size, 0, none⟩)) true ty).run Try.prog (w.iter ⟨#[48, 49, 50, 51, 52, 53, 54, 55, 56, 57, 97, 98, 99, 100, 101, 102]⟩ k) = .ok (.tuple #[.bool true, .int .i64 (k : Int), .int .i32 (hexd k)]) (w.iter ⟨#[48, 49, 50, 51, 52, 53, 54, 55, 56, 57, 97, 98, 99, 100, 101, 102]⟩ (k + 1)) := by
  have hk : k = 0 ∨ k = 1 ∨ k = 2 ∨ k = 3 ∨ k = 4 ∨ k = 5 ∨ k = 6 ∨ k = 7 ∨ k = 8 ∨ k = 9 ∨ k = 10 ∨ k = 11 ∨ k = 12 ∨ k = 13 ∨ k = 14 ∨ k = 15 := by omega
  rcases hk with rfl | rfl | rfl | rfl | rfl | rfl | rfl | rfl | rfl | rfl | rfl | rfl | rfl | rfl | rfl | rfl <;> (rw [run_next_ascii w _ _ ty (by decide) (by decide)]; rfl)

def worthV (c : Int) : Int := if 0 ≤ digv c then digv c else 0
def worthB (c : Int) : Bool := decide (0 ≤ digv c)
def WorthIs (c : Int) (e : Ending) : Prop := e = .returned (.tuple #[.int .u8 (worthV c), .bool (worthB c)])
theorem worth_yes {c : Int} {k : Nat} (h : digv c = k) : WorthIs c (.returned (.tuple #[.int .u8 (k : Int), .bool true])) := by
  unfold WorthIs worthV worthB; rw [h, if_pos (by omega), decide_eq_true (by omega)]
theorem worth_no {c : Int} (h : digv c = -1) : WorthIs c (.returned (.tuple #[.int .u8 0, .bool false])) := by
  unfold WorthIs worthV worthB; rw [h]; rfl
/-- 'octet.worth': a rune's digit. -/
theorem worth_any (c : Int) (w : World) :
    Calls Try.prog 18 #[.int .i32 c] w fun e w' => WorthIs c e ∧ Below w.heap.size w w' := by
  go_enter Try.func18, Try.ntmps18
  go_wp2_with fail
  go_loopw [4] (fun u wr => ∃ k : Nat, k ≤ 16 ∧ wr = w.iter ⟨#[48, 49, 50, 51, 52, 53, 54, 55, 56, 57, 97, 98, 99, 100, 101, 102]⟩ k ∧ Aside0 (∀ j : Nat, j < k → hexd j ≠ c)) (fun _ wr => 16 - wr.iterPos w.heap.size)
  case atStart => exact ⟨0, Nat.zero_le _, rfl, ⟨fun j hj => absurd hj (by omega)⟩⟩
  case round =>
    obtain ⟨k, hk, rfl, hno⟩ := hrel
    by_cases hlt : k < 16
    · have hnx := dig_next w k hlt
      by_cases he : c = hexd k
      · have heB : (c == hexd k) = true := by simp [he]
        have hd : digv c = k := by rw [he]; exact digv_hexd _ (by omega) (by omega)
        have H := Lib.hid hd
        clear hd he
        go_wp2_with fail
        go_ret2
        exact ⟨worth_yes H.out, (Below.refl _ _).alloc (Nat.le_refl _) _⟩
      · have heB : (c == hexd k) = false := by simpa using he
        have hno' : Aside0 (∀ j : Nat, j < k + 1 → hexd j ≠ c) := ⟨fun j hj => by
          rcases Nat.lt_or_ge j k with h | h
          · exact hno.out j h
          · obtain rfl : j = k := by omega
            exact fun e => he e.symm⟩
        clear he hno
        go_wp2_with fail
        go_roundw
        case rel => exact ⟨k + 1, by omega, rfl, hno'⟩
        case measure => simp; omega
    · obtain rfl : k = 16 := by omega
      have hnx : ∀ ty, (Instr.next (.pointer (some ⟨w.heap.size, 0, none⟩)) true ty).run Try.prog (w.iter ⟨#[48, 49, 50, 51, 52, 53, 54, 55, 56, 57, 97, 98, 99, 100, 101, 102]⟩ 16) = _ := fun ty => run_next_end w ⟨#[48, 49, 50, 51, 52, 53, 54, 55, 56, 57, 97, 98, 99, 100, 101, 102]⟩ 16 ty (by decide)
      have H := Lib.hid (digv_none c hno.out)
      go_wp2_with fail
      go_ret2
      exact ⟨worth_no H.out, (Below.refl _ _).alloc (Nat.le_refl _) _⟩
theorem worth_is (c : Int) (w : World) (h : 0 ≤ digv c) :
    Calls Try.prog 18 #[.int .i32 c] w fun e w' => e = .returned (.tuple #[.int .u8 (digv c), .bool true]) ∧ Below w.heap.size w w' :=
  (worth_any c w).mono fun e w' hh => ⟨by have := hh.1; unfold WorthIs worthV worthB at this; rw [if_pos h, decide_eq_true h] at this; exact this, hh.2⟩
theorem worth_isnt (c : Int) (w : World) (h : digv c < 0) :
    Calls Try.prog 18 #[.int .i32 c] w fun e w' => e = .returned (.tuple #[.int .u8 0, .bool false]) ∧ Below w.heap.size w w' :=
  (worth_any c w).mono fun e w' hh => ⟨by have := hh.1; unfold WorthIs worthV worthB at this; rw [if_neg (by omega), decide_eq_false (by omega)] at this; exact this, hh.2⟩

/-- The bytes of digits. -/
def pairsN (bs : List Int) (m : Nat) : List Int := (List.range m).map fun i => 16 * digv (bs.getD (2 * i) 0) + digv (bs.getD (2 * i + 1) 0)
theorem pairsN_succ (bs : List Int) (m : Nat) : pairsN bs (m + 1) = pairsN bs m ++ [16 * digv (bs.getD (2 * m) 0) + digv (bs.getD (2 * m + 1) 0)] := by simp [pairsN, List.range_succ]
theorem pairsN_length (bs : List Int) (m : Nat) : (pairsN bs m).length = m := by simp [pairsN]
def HexOk (bs : List Int) : Prop := bs.length % 2 = 0 ∧ ∀ j, j < bs.length → 0 ≤ digv (bs.getD j 0)
def UnhexIs (bs : List Int) (B : Nat) (yes no : Value) (e : Ending) (w' : World) : Prop :=
  (HexOk bs ∧ ∃ u, e = .returned (.tuple #[u, yes]) ∧ w'.ownsRow B 5 1 u (pairsN bs (bs.length / 2)).length (nums .u8 (pairsN bs (bs.length / 2)))) ∨
  (¬ HexOk bs ∧ e = .returned (.tuple #[.slice none 0 0, no]))
theorem rune_dig (s : ByteArray) (k : Nat) (h : k < s.size) : digv ((Utf8.decode s k).1 : Int) = digv ((bytesOf s).getD k 0) ∧ (0 ≤ digv ((bytesOf s).getD k 0) → Utf8.decode s k = ((s[k]'h).toNat, 1)) := by
  have hb : (bytesOf s).getD k 0 = ((s[k]'h).toNat : Int) := by
    have := rd_bytesOf s (k : Int)
    rw [← bt_at s (k : Int) (by simpa using h)] at this
    simpa [rd] using this
  rw [hb]
  by_cases ha : (s[k]'h).toNat < 128
  · rw [decode_ascii s k h ha]
    exact ⟨rfl, fun _ => rfl⟩
  · have h1 := (decode_high s k h (by omega)).1
    have h2 : digv ((Utf8.decode s k).1 : Int) = -1 := by unfold digv; rw [if_neg (by omega), if_neg (by omega)]
    have h3 : digv ((s[k]'h).toNat : Int) = -1 := by unfold digv; rw [if_neg (by omega), if_neg (by omega)]
    rw [h2, h3]
    exact ⟨rfl, fun h => absurd h (by decide)⟩
theorem or_dig (a b : Int) (h0 : 0 ≤ a) (h1 : a < 16) (h2 : 0 ≤ b) (h3 : b < 16) : bits .or .u8 (a * 16) b = 16 * a + b := by
  obtain ⟨x, rfl⟩ := Int.eq_ofNat_of_zero_le h0
  obtain ⟨y, rfl⟩ := Int.eq_ofNat_of_zero_le h2
  have hx : x < 16 := by omega
  have hy : y < 2 ^ 4 := by omega
  have e : ((x : Int) * 16) = ((x * 16 : Nat) : Int) := by simp
  rw [e, u8_or_nat _ _ (by omega) (by omega)]
  have e2 : x * 16 ||| y = x * 16 + y := by
    have := Nat.shiftLeft_add_eq_or_of_lt hy x
    rw [Nat.shiftLeft_eq] at this
    simpa using this.symm
  rw [e2]; omega
end Go.Proofs.Yteapmebmgaggcaa
