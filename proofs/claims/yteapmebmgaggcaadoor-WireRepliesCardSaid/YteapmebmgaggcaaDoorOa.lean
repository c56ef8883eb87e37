import Derived.Test.YteapmebmgaggcaaDoorProg
import Derived.WalkKit
import Derived.WalkLawsBesides
import Derived.WalkSpells
import Derived.Lib.Hide
import Derived.Laws.CopyOwn
import Derived.Deep.DeepCutAuto
import Derived.KernelRfl
import Derived.Test.YteapmebmgaggcaaDoorWWords
import Derived.Test.YteapmebmgaggcaaDoorOp
namespace Go.Proofs.YteapmebmgaggcaaDoor
open Go.RowKit Go.Proofs.YteapmebmgaggcaaDoorW.PrintWords
set_option linter.unusedVariables false
set_option linter.unusedSimpArgs false

theorem infoU8 : (Tryd.prog.info? 5).map (fun i => (i.zero, i.size, i.bytes)) = some (some (.int .u8 0), 1, 1) := by kernel_rfl
theorem sizeU8 : (Tryd.prog.info? 5).map (·.size) = some 1 := by kernel_rfl
theorem zeroU8 (m : Nat) : (madeCells #[Value.int .u8 0] m).toList = nums .u8 (List.replicate m 0) := by
  apply List.ext_getElem
  · simp [nums, madeCells]
  · intro i h1 h2
    simp [nums, madeCells, Nat.mod_one]
/-- 'make([]byte, l, c)'. -/
theorem makeU8 (l n : Nat) (hl : l + n ≤ 100000000) (W : World) :
    (Instr.makeSlice 31 (.int .i64 (l : Int)) (.int .i64 ((l : Int) + (n : Int)))).run Tryd.prog W = .ok (.slice (some ⟨W.heap.size, 0, none⟩) l (l + n)) (W.alloc (.cells (nums .u8 (List.replicate (l + n) 0)).toArray 5)) := by
  obtain ⟨i0, hi, hzz⟩ := Option.map_eq_some_iff.1 infoU8
  simp only [Prod.mk.injEq] at hzz
  obtain ⟨hz0, hz1, hz2⟩ := hzz
  have h := run_make (P := Tryd.prog) (w := W) 31 5 i0 (.int .u8 0) Tryd.underlying31 hi hz0 .i64 .i64 (l : Int) ((l : Int) + (n : Int)) (by omega) (by omega) (by rw [hz2]; omega) (by omega)
  rw [h, hz1]
  have e1 : ((l : Int) + (n : Int)).toNat = l + n := by omega
  rw [e1, Int.toNat_natCast, Nat.mul_one]
  have e2 : (madeCells (Value.int .u8 0).cells (l + n)) = (nums .u8 (List.replicate (l + n) 0)).toArray := by
    rw [← zeroU8]; rfl
  rw [e2]


theorem one_u8 (xs : List Int) : ∀ u ∈ nums .u8 xs, u.oneCell' = true := by
  intro u hu; simp only [nums, List.mem_map] at hu; obtain ⟨q, _, rfl⟩ := hu; rfl
theorem cells_of {w : World} {A : Option Addr} {l : Nat} {xs : List Int} (h : ReadsInt w .u8 A l xs) (h0 : 0 < l) : ∃ ad, A = some ad ∧ ∀ j v, (nums .u8 xs)[j]? = some v → w.cell? (ad.add j) = some v := by
  obtain ⟨ad, e, hc⟩ := h.2.2 h0
  refine ⟨ad, e, fun j v hj => ?_⟩
  rcases Nat.lt_or_ge j xs.length with hlt | hge
  · have := hc j (by have := h.1; omega)
    simp [nums, List.getElem?_eq_getElem hlt] at hj
    subst hj
    rw [this]; simp [List.getD_eq_getElem?_getD, List.getElem?_eq_getElem hlt]
  · simp [nums, List.getElem?_eq_none hge] at hj
theorem nums_len (xs : List Int) : (nums .u8 xs).length = xs.length := by simp [nums]

theorem own_spliced {w1 : World} {B l n : Nat} {xs : List Int} (hx : xs.length = l) (hg : w1.heap[B]? = some (.cells (splice (nums .u8 (List.replicate (l + n) 0)) 0 (nums .u8 xs)).toArray 5 (0, 0))) (hl : l + n ≤ 100000000) :
    w1.ownsRow B 5 1 (.slice (some ⟨B, 0, none⟩) l (l + n)) (xs ++ []).length (nums .u8 (xs ++ [])) := by
  subst hx
  refine ⟨by simp [nums], .inr ⟨B, xs.length + n, _, by simp, Nat.le_refl _, hg, by simp, by unfold maxLen; omega, ?_, ?_⟩⟩
  · simp [splice, nums]
  · simp [splice, nums]

/-- So many bytes 'Put' lays. -/
def clamp8 (n : Int) : Nat := if n < 0 then 0 else if 8 < n then 8 else n.toNat
theorem clamp8_in (n : Int) (h0 : 0 ≤ n) (h1 : n ≤ 8) : clamp8 n = n.toNat := by unfold clamp8; rw [if_neg (by omega), if_neg (by omega)]

theorem put_any (A : Option Addr) (l c : Nat) (xs : List Int) (a1 : Int) (v : Int) (w : World) (hb : ReadsInt w .u8 A l xs) (hl : l ≤ 1000000) (hv0 : 0 ≤ v) (hv1 : v < 18446744073709551616) :
    Calls Tryd.prog 31 #[.slice A l c, .int .i64 a1, .int .u64 v] w fun e w' => ∃ u, e = .returned u ∧ w'.ownsRow w.heap.size 5 1 u (xs ++ low (clamp8 a1) v).length (nums .u8 (xs ++ low (clamp8 a1) v)) ∧ Below w.heap.size w w' := by
  have hxl : Hid (xs.length = l) := Lib.hid hb.1
  go_enter Tryd.func31, Tryd.ntmps31
  go_upto_region 1 with (fail)
  go_cut [1] (fun v1 wc => ∃ m : Nat, v1 = .int .i64 (m : Int) ∧ m ≤ 8 ∧ Aside0 (m = clamp8 a1) ∧ w = wc)
  case first =>
    by_cases h0 : a1 < 0
    · go_wp2
      go_meet
      case rel => exact ⟨0, rfl, by omega, ⟨by unfold clamp8; rw [if_pos h0]⟩, rfl⟩
    · by_cases h8 : 8 < a1
      · go_wp2
        go_meet
        case rel => exact ⟨8, rfl, by omega, ⟨by unfold clamp8; rw [if_neg (by omega), if_pos h8]⟩, rfl⟩
      · have h0' : 0 ≤ a1 := by omega
        have h8' : a1 ≤ 8 := by omega
        clear h0 h8
        go_wp2
        go_meet
        case rel => exact ⟨a1.toNat, by rw [Int.toNat_of_nonneg h0'], by omega, ⟨(clamp8_in a1 h0' h8').symm⟩, rfl⟩
  case rest =>
    obtain ⟨n, rfl, hn, hcl, rfl⟩ := hcut
    have hmk := makeU8 l n (by omega)
    have hb2 : ReadsInt (w.alloc (.cells (nums .u8 (List.replicate (l + n) 0)).toArray 5)) .u8 A l xs := hb.below ((Below.refl _ _).alloc (Nat.le_refl _) _)
    have hlen : (nums .u8 xs).length = Nat.min l l := by rw [nums_len, hxl.out]; simp
    go_wp2_with (with_reducible refine wpList_copy_splice rfl (.tmp 19) (.tmp 20) 31 31 rfl 5 Tryd.underlying31 sizeU8 _ _ _ _ _ _ rfl rfl w.heap.size 0 (nums .u8 (List.replicate (l + n) 0)) 5 (heap_alloc_new _ _) (nums .u8 xs) ?c1 ?c2 ?c3 ?c4 w.heap.size w ((Below.refl _ _).alloc (Nat.le_refl _) _) (Nat.le_refl _) ?_)
    case c1 => exact hlen
    case c2 =>
      intro h0
      exact cells_of hb2 h0
    case c3 =>
      rw [nums_len]
      have := hxl.out
      simp [nums]
      try omega
    case c4 => exact one_u8 xs
    intro w1 HG hB1
    have HO1 : Aside0 (w1.ownsRow w.heap.size 5 1 (.slice (some ⟨w.heap.size, 0, none⟩) l (l + n)) (xs ++ pfx n 0 v).length (nums .u8 (xs ++ pfx n 0 v))) := ⟨own_spliced hxl.out HG.out (by omega)⟩
    clear HG hlen hmk hb2 hb
    go_wp2_with fail
    go_loopw [7, 23] (fun u i wr => ∃ k : Nat, k ≤ n ∧ i = .int .i64 k ∧ Aside0 (wr.ownsRow w.heap.size 5 1 u (xs ++ pfx n k v).length (nums .u8 (xs ++ pfx n k v))) ∧ Aside0 (Below w.heap.size w wr)) (fun _ i _ => n - (intOf i).toNat)
    case atStart => exact ⟨0, Nat.zero_le _, rfl, HO1, ⟨hB1⟩⟩
    case round =>
      obtain ⟨k, hk, rfl, hO, hB⟩ := hrel
      have hlk : (xs ++ pfx n k v).length ≤ l + 8 := by rw [List.length_append, pfx_length, hxl.out]; omega
      by_cases hlt : k < n
      · go_wp2_with (at_builtin; refine print_append_num w.heap.size rfl (.tmp 26) (.tmp 35) 31 5 .u8 1 rfl Tryd.underlying31 infoU8 (by omega) _ (xs ++ pfx n k v) _ rfl rfl hO.out hB.out hB.out.size (by omega) ?_)
        intro v1 w2 hO2 hB2 _ _
        have hO3 : Aside0 (w2.ownsRow w.heap.size 5 1 v1 (xs ++ pfx n (k + 1) v).length (nums .u8 (xs ++ pfx n (k + 1) v))) := ⟨by simpa [pfx_succ] using hO2⟩
        clear hO2 hO hB
        go_wp2
        go_roundw
        case rel => exact ⟨k + 1, by omega, by go_num, hO3, ⟨hB2⟩⟩
        case measure => simp [intOf]; omega
      · obtain rfl : k = n := by omega
        go_wp2
        go_ret
        exact ⟨_, rfl, by rw [← hcl.out, low_eq]; exact hO.out, hB.out⟩
end Go.Proofs.YteapmebmgaggcaaDoor
