import Derived.WalkKit
import Derived.Lib.Hide
import Derived.Test.YteapmebmgaggcaaDoorWWords
namespace Go.Proofs.YteapmebmgaggcaaDoor
open Go.RowKit Go.Proofs.YteapmebmgaggcaaDoorW.PrintWords
set_option linter.unusedVariables false
set_option linter.unusedSimpArgs false

/-- Bytes as whole numbers. -/
def Byt (xs : List Int) : Prop := ∀ x ∈ xs, 0 ≤ x ∧ x < 256
/-- The number whose bytes these are, the highest first. -/
def numb (xs : List Int) : Int := xs.foldl (fun a b => a * 256 + b) 0
theorem numb_nil : numb [] = 0 := rfl
theorem numb_snoc (xs : List Int) (x : Int) : numb (xs ++ [x]) = numb xs * 256 + x := by simp [numb]
theorem Byt.take {xs : List Int} (h : Byt xs) (k : Nat) : Byt (xs.take k) := fun x hx => h x (List.mem_of_mem_take hx)
theorem Byt.drop {xs : List Int} (h : Byt xs) (k : Nat) : Byt (xs.drop k) := fun x hx => h x (List.mem_of_mem_drop hx)
theorem Byt.append {xs ys : List Int} (h : Byt xs) (k : Byt ys) : Byt (xs ++ ys) := fun x hx => (List.mem_append.1 hx).elim (h x) (k x)
theorem Byt.nil : Byt [] := fun _ h => by cases h
theorem Byt.snoc {xs : List Int} {x : Int} (h : Byt xs) (h0 : 0 ≤ x) (h1 : x < 256) : Byt (xs ++ [x]) := h.append fun y hy => by
  obtain rfl : y = x := by simpa using hy
  exact ⟨h0, h1⟩
theorem Byt.rd {xs : List Int} (h : Byt xs) (i : Int) : 0 ≤ rd xs i ∧ rd xs i < 256 := by
  unfold YteapmebmgaggcaaDoorW.PrintWords.rd
  rw [List.getD_eq_getElem?_getD]
  rcases Nat.lt_or_ge i.toNat xs.length with hl | hl
  · rw [List.getElem?_eq_getElem hl]; exact h _ (List.getElem_mem hl)
  · rw [List.getElem?_eq_none hl]; exact ⟨by decide, by decide⟩
theorem Byt.getD {xs : List Int} (h : Byt xs) (i : Nat) : 0 ≤ xs.getD i 0 ∧ xs.getD i 0 < 256 := by
  have := h.rd (i : Int)
  simpa [YteapmebmgaggcaaDoorW.PrintWords.rd] using this
theorem take_snoc (xs : List Int) (k : Nat) (h : k < xs.length) : xs.take (k + 1) = xs.take k ++ [xs.getD k 0] := by
  rw [List.take_succ_eq_append_getElem h]; simp [List.getD_eq_getElem?_getD, h]
theorem numb_take (xs : List Int) (k : Nat) (h : k < xs.length) : numb (xs.take (k + 1)) = numb (xs.take k) * 256 + xs.getD k 0 := by
  rw [take_snoc xs k h, numb_snoc]
theorem numb_lt {xs : List Int} (h : Byt xs) (k : Nat) : 0 ≤ numb (xs.take k) ∧ numb (xs.take k) < 256 ^ k := by
  induction k with
  | zero => simp [numb]
  | succ k ih =>
    rcases Nat.lt_or_ge k xs.length with hl | hl
    · rw [numb_take xs k hl, Int.pow_succ]
      have := h.getD k
      omega
    · rw [List.take_of_length_le (by omega), ← List.take_of_length_le hl, Int.pow_succ]
      omega
theorem numb_lt8 {xs : List Int} (h : Byt xs) (k : Nat) (hk : k < 8) : 0 ≤ numb (xs.take k) ∧ numb (xs.take k) < 72057594037927936 := by
  have h1 := numb_lt h k
  refine ⟨h1.1, Int.lt_of_lt_of_le h1.2 ?_⟩
  have : ∀ k : Nat, k < 8 → (256 : Int) ^ k ≤ 72057594037927936 := by decide
  exact this k hk
theorem or_byte (a b : Int) (h0 : 0 ≤ a) (h1 : a < 72057594037927936) (h2 : 0 ≤ b) (h3 : b < 256) : bits .or .u64 (a * 256) b = a * 256 + b := by
  obtain ⟨x, rfl⟩ := Int.eq_ofNat_of_zero_le h0
  obtain ⟨y, rfl⟩ := Int.eq_ofNat_of_zero_le h2
  have hx : x < 72057594037927936 := by omega
  have hy : y < 2 ^ 8 := by omega
  have e : ((x : Int) * 256) = ((x * 256 : Nat) : Int) := by simp
  rw [e, u64_or_nat _ _ (by omega) (by omega)]
  have e2 : x * 256 ||| y = x * 256 + y := by
    have := Nat.shiftLeft_add_eq_or_of_lt hy x
    rw [Nat.shiftLeft_eq] at this
    simpa using this.symm
  rw [e2]; simp

theorem reads_nat {w : World} {A : Option Addr} {l : Nat} {xs : List Int} (h : ReadsInt w .u8 A l xs) (k : Nat) (hk : k < l) : ∃ ad, A = some ad ∧ w.cell? (ad.add k) = some (.int .u8 (xs.getD k 0)) := by
  obtain ⟨ad, e, hc⟩ := h.2.2 (by omega)
  exact ⟨ad, e, hc k hk⟩

/-- What is laid of v in n bytes, the first k of them. -/
def pfx (n k : Nat) (v : Int) : List Int := (List.range k).map fun i => v / 2 ^ (8 * (n - 1 - i)) % 256
theorem pfx_succ (n k : Nat) (v : Int) : pfx n (k + 1) v = pfx n k v ++ [v / 2 ^ (8 * (n - 1 - k)) % 256] := by simp [pfx, List.range_succ]
theorem pfx_length (n k : Nat) (v : Int) : (pfx n k v).length = k := by simp [pfx]
theorem pfx_byt (n k : Nat) (v : Int) : Byt (pfx n k v) := by
  intro x hx
  simp only [pfx, List.mem_map] at hx
  obtain ⟨i, _, rfl⟩ := hx
  omega
/-- The same, the lowest byte laid first, ahead of the others. -/
def low : Nat → Int → List Int
  | 0, _ => []
  | k + 1, v => (v / 256 ^ k % 256) :: low k v
theorem low_length (k : Nat) (v : Int) : (low k v).length = k := by induction k with | zero => rfl | succ k ih => simp [low, ih]
theorem low_byt (k : Nat) (v : Int) : Byt (low k v) := by
  induction k with
  | zero => exact Byt.nil
  | succ k ih =>
    intro x hx
    rcases List.mem_cons.1 hx with rfl | hx
    · omega
    · exact ih x hx
theorem two_pow_8 (m : Nat) : (2 : Int) ^ (8 * m) = 256 ^ m := by rw [Int.pow_mul]; rfl
theorem range_map_succ {α : Type} (n : Nat) (f : Nat → α) : (List.range (n + 1)).map f = f 0 :: (List.range n).map (fun i => f (i + 1)) := by
  rw [List.range_succ_eq_map]; simp [Function.comp_def]
theorem low_eq (n : Nat) (v : Int) : low n v = pfx n n v := by
  induction n with
  | zero => rfl
  | succ n ih =>
    rw [low, ih, pfx, pfx, range_map_succ]
    have h1 : v / 256 ^ n % 256 = v / 2 ^ (8 * (n + 1 - 1 - 0)) % 256 := by rw [two_pow_8]; rfl
    have h2 : (List.range n).map (fun i => v / 2 ^ (8 * (n - 1 - i)) % 256) = (List.range n).map (fun i => v / 2 ^ (8 * (n + 1 - 1 - (i + 1))) % 256) := by
      refine List.map_congr_left fun i _ => ?_
      have : n + 1 - 1 - (i + 1) = n - 1 - i := by omega
      rw [this]
    rw [h1, h2]
end Go.Proofs.YteapmebmgaggcaaDoor
