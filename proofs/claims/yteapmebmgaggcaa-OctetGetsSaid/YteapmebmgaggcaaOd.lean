import Derived.Test.YteapmebmgaggcaaOc
namespace Go.Proofs.Yteapmebmgaggcaa
open Go.RowKit Go.Proofs.YteapmebmgaggcaaW.PrintWords
set_option linter.unusedVariables false
set_option linter.unusedSimpArgs false

/-- A digit's sign. -/
def hexd (x : Int) : Int := if x < 10 then 48 + x else 87 + x
def hexl (xs : List Int) : List Int := xs.flatMap fun x => [hexd (x / 16), hexd (x % 16)]
theorem hexl_snoc (xs : List Int) (x : Int) : hexl (xs ++ [x]) = hexl xs ++ [hexd (x / 16), hexd (x % 16)] := by simp [hexl]
theorem hexl_length (xs : List Int) : (hexl xs).length = 2 * xs.length := by induction xs with | nil => rfl | cons x xs ih => simp [hexl] at ih ⊢; omega
theorem hexl_take (xs : List Int) (k : Nat) (h : k < xs.length) : hexl (xs.take (k + 1)) = hexl (xs.take k) ++ [hexd (xs.getD k 0 / 16), hexd (xs.getD k 0 % 16)] := by rw [take_snoc xs k h, hexl_snoc]

theorem own_room (w : World) (e : TypeId) (m : Nat) (z : List Int) (hm : m ≤ 100000000) : (w.alloc (.cells (nums .u8 (List.replicate m 0)).toArray e)).ownsRow w.heap.size e 1 (.slice (some ⟨w.heap.size, 0, none⟩) 0 m) (hexl (z.take 0)).length (nums .u8 (hexl (z.take 0))) := by
  refine ⟨by simp [nums, hexl], .inr ⟨w.heap.size, m, _, by simp [hexl], Nat.le_refl _, heap_alloc_new _ _, by simp [hexl], by unfold maxLen; omega, ?_, ?_⟩⟩
  · simp [nums]
  · simp [nums, hexl]
def digs : ByteArray := ⟨#[48, 49, 50, 51, 52, 53, 54, 55, 56, 57, 97, 98, 99, 100, 101, 102]⟩
theorem dig_at (x : Int) (h0 : 0 ≤ x) (h1 : x < 16) (W : World) : (Instr.index 9 (.string ⟨#[48, 49, 50, 51, 52, 53, 54, 55, 56, 57, 97, 98, 99, 100, 101, 102]⟩) (.int .u8 x)).run Try.prog W = .ok (.int .u8 (hexd x)) W := by
  have h : x = 0 ∨ x = 1 ∨ x = 2 ∨ x = 3 ∨ x = 4 ∨ x = 5 ∨ x = 6 ∨ x = 7 ∨ x = 8 ∨ x = 9 ∨ x = 10 ∨ x = 11 ∨ x = 12 ∨ x = 13 ∨ x = 14 ∨ x = 15 := by omega
  rcases h with rfl | rfl | rfl | rfl | rfl | rfl | rfl | rfl | rfl | rfl | rfl | rfl | rfl | rfl | rfl | rfl <;> (rw [run_index_string W 9 _ .u8 _ Try.underlying9]; rfl)
theorem and15 (r : Int) (h0 : 0 ≤ r) (h1 : r < 256) : bits .and .u8 r 15 = r % 16 := by
  obtain ⟨x, rfl⟩ := Int.eq_ofNat_of_zero_le h0
  have e : (15 : Int) = ((15 : Nat) : Int) := rfl
  rw [e, u8_and_nat x 15 (by omega) (by omega)]
  have : x &&& 15 = x % 16 := Nat.and_two_pow_sub_one_eq_mod x 4
  rw [this]; simp

/-- 'octet.Hex'. -/
theorem hex_any (A : Option Addr) (l c : Nat) (xs : List Int) (w : World) (hb : ReadsInt w .u8 A l xs) (hx : Byt xs) (hl : l ≤ 1000000) :
    Calls Try.prog 15 #[.slice A l c] w fun e w' => e = .returned (.string (strOfNums (hexl xs))) ∧ Below w.heap.size w w' := by
  have hxl : Hid (xs.length = l) := Lib.hid hb.1
  have hmk := makeU8 0 (2 * l) (by omega)
  have ez : (((0 : Nat) : Int) + ((2 * l : Nat) : Int)) = 2 * (l : Int) := by omega
  have ez0 : ((0 : Nat) : Int) = 0 := rfl
  rw [ez, ez0, Nat.zero_add] at hmk
  clear ez ez0
  go_enter Try.func15, Try.ntmps15
  go_wp2_with fail
  have HO1 : Aside0 ((w.alloc (.cells (nums .u8 (List.replicate (2 * l) 0)).toArray 5)).ownsRow w.heap.size 5 1 (.slice (some ⟨w.heap.size, 0, none⟩) 0 (2 * l)) (hexl (xs.take 0)).length (nums .u8 (hexl (xs.take 0)))) := ⟨own_room w _ _ _ (by omega)⟩
  go_loopw [3, 12] (fun u i wr => ∃ k : Nat, k ≤ l ∧ i = .int .i64 k ∧ Aside0 (wr.ownsRow w.heap.size 5 1 u (hexl (xs.take k)).length (nums .u8 (hexl (xs.take k)))) ∧ Aside0 (Below w.heap.size w wr)) (fun _ i _ => l - (intOf i).toNat)
  case atStart => exact ⟨0, Nat.zero_le _, rfl, HO1, ⟨(Below.refl _ _).alloc (Nat.le_refl _) _⟩⟩
  case round =>
    obtain ⟨k, hk, rfl, hO, hB⟩ := hrel
    by_cases hlt : k < l
    · obtain ⟨ad, rfl, hc⟩ := reads_nat (hb.below hB.out) k (by omega)
      have hr := hx.getD k
      have hnt : Hid (hexl (xs.take (k + 1)) = hexl (xs.take k) ++ [hexd (xs.getD k 0 / 16), hexd (xs.getD k 0 % 16)]) := Lib.hid (hexl_take xs k (by rw [hxl.out]; exact hlt))
      obtain ⟨r, hrr⟩ : ∃ r, r = xs.getD k 0 := ⟨_, rfl⟩
      rw [← hrr] at hr hnt hc
      clear hrr
      have hd1 := dig_at (r / 16) (by omega) (by omega)
      have hd2 := dig_at (r % 16) (by omega) (by omega)
      have h15 := and15 r hr.1 hr.2
      go_wp2_with fail
      have hlk : (hexl (xs.take k)).length ≤ 2 * l := by rw [hexl_length, List.length_take]; omega
      have hOd : Aside0 ((wr.drew.alloc (.cells (nums .u8 [hexd (r / 16), hexd (r % 16)]).toArray 5)).ownsRow w.heap.size 5 1 u3 (hexl (xs.take k)).length (nums .u8 (hexl (xs.take k)))) := ⟨World.ownsRow.alloc (w := wr.drew) hO.out _⟩
      have hRd := Aside0.mk (reads_new wr.drew .u8 5 [hexd (r / 16), hexd (r % 16)] (by simp))
      have hBd := Aside0.mk ((hB.out.drew).alloc hB.out.size (.cells (nums .u8 [hexd (r / 16), hexd (r % 16)]).toArray 5))
      go_region_law (refine step_append_nums w.heap.size rfl (.tmp 16) (.tmp 23) 22 5 .u8 1 rfl Try.underlying22 infoU8 (by omega) _ (hexl (xs.take k)) [hexd (r / 16), hexd (r % 16)] _ _ _ rfl rfl hOd.out hRd.out hBd.out hBd.out.size (by show ((hexl (xs.take k)).length + 2) * 1 ≤ _; omega) ?_; intro v1 w2 hO2 hB2 _ _; have hO3 : Aside0 (w2.ownsRow w.heap.size 5 1 v1 (hexl (xs.take (k + 1))).length (nums .u8 (hexl (xs.take (k + 1))))) := ⟨by rw [hnt.out]; exact hO2⟩; have hB3 := Aside0.mk hB2; clear hO2 hB2)
      all_goals
        clear hO hB hOd hRd hBd hd1 hd2 h15 hmk HO1
        go_wp2
        go_roundw
        case rel => exact ⟨k + 1, by omega, by go_num, hO3, hB3⟩
        case measure => simp [intOf]; omega
    · obtain rfl : k = l := by omega
      rw [List.take_of_length_le (by rw [hxl.out]; omega)] at hO
      have hst := own_string (P := Try.prog) (src := 22) (dst := 9) Try.underlying22 Try.underlying5 Try.underlying9 hO.out
      go_wp2_with fail
      go_ret
      exact ⟨rfl, hB.out⟩
end Go.Proofs.Yteapmebmgaggcaa
