import Derived.Test.YteapmebmgaggcaaDoorOb
import Derived.Test.YteapmebmgaggcaaDoorOq
namespace Go.Proofs.YteapmebmgaggcaaDoor
open Go.RowKit Go.Proofs.YteapmebmgaggcaaDoorW.PrintWords
set_option linter.unusedVariables false
set_option linter.unusedSimpArgs false

theorem div_step (v : Int) (k : Nat) (h0 : 0 ≤ v) : v / 256 ^ (k + 1) = v / 256 ^ k / 256 := by
  rw [Int.pow_succ, Int.ediv_ediv_of_nonneg (Int.le_of_lt (Int.pow_pos (by decide)))]
theorem div_bound (v : Int) (k : Nat) (h0 : 0 ≤ v) (h1 : v < 18446744073709551616) : 0 ≤ v / 256 ^ k ∧ v / 256 ^ k < 18446744073709551616 := by
  refine ⟨Int.ediv_nonneg h0 (Int.le_of_lt (Int.pow_pos (by decide))), Int.lt_of_le_of_lt (Int.ediv_le_self _ h0) h1⟩

/-- 'ringroadref02.Put'. -/
theorem refput_any (A : Option Addr) (l c : Nat) (xs : List Int) (a1 : Int) (v : Int) (w : World) (hb : ReadsInt w .u8 A l xs) (hl : l ≤ 1000000) (hv0 : 0 ≤ v) (hv1 : v < 18446744073709551616) :
    Calls Tryd.prog 40 #[.slice A l c, .int .i64 a1, .int .u64 v] w fun e w' => ∃ u, e = .returned u ∧ w'.ownsRow w.heap.size 5 1 u (xs ++ low (clamp8 a1) v).length (nums .u8 (xs ++ low (clamp8 a1) v)) ∧ Below w.heap.size w w' := by
  have hxl : Hid (xs.length = l) := Lib.hid hb.1
  go_enter Tryd.func40, Tryd.ntmps40
  go_upto_if 10 with (fail)
  go_cut [1] (fun v1 wc => ∃ m : Int, v1 = .int .i64 m ∧ 0 ≤ m ∧ Aside0 (clamp8 m = clamp8 a1) ∧ w = wc)
  case first =>
    by_cases h0 : a1 < 0
    · go_wp2
      go_meet
      case rel => exact ⟨0, rfl, by omega, ⟨by unfold clamp8; rw [if_pos h0]; rfl⟩, rfl⟩
    · go_wp2
      go_meet
      case rel => exact ⟨a1, rfl, by omega, ⟨rfl⟩, rfl⟩
  case rest =>
    obtain ⟨m, rfl, hm0, hcl0, rfl⟩ := hcut
    go_upto_if 12 with (fail)
    go_cut [1] (fun v1 wc => ∃ m : Nat, v1 = .int .i64 (m : Int) ∧ m ≤ 8 ∧ Aside0 (m = clamp8 a1) ∧ w = wc)
    case first =>
      by_cases h0 : 8 < m
      · go_wp2
        go_meet
        case rel => exact ⟨8, rfl, by omega, ⟨by rw [← hcl0.out]; unfold clamp8; rw [if_neg (by omega), if_pos h0]⟩, rfl⟩
      · go_wp2
        go_meet
        case rel => exact ⟨m.toNat, by rw [Int.toNat_of_nonneg hm0], by omega, ⟨by rw [← hcl0.out]; exact (clamp8_in m hm0 (by omega)).symm⟩, rfl⟩
    case rest =>
      obtain ⟨n, rfl, hn, hcl, rfl⟩ := hcut
      clear hcl0 hm0
      go_wp2_with fail
      go_loopw [2, 7, 8] (fun x u i wr => ∃ k : Nat, k ≤ n ∧ i = .int .i64 k ∧ x = .int .u64 (v / 256 ^ k) ∧ Aside0 (wr.ownsRow w.heap.size 5 1 u (low k v).length (nums .u8 (low k v))) ∧ Aside0 (Below w.heap.size w wr)) (fun _ _ i _ => n - (intOf i).toNat)
      case atStart => exact ⟨0, Nat.zero_le _, rfl, by simp, ⟨World.ownsRow_nil _ _ _ _⟩, ⟨Below.refl _ _⟩⟩
      case round =>
        obtain ⟨k, hk, rfl, rfl, hO, hB⟩ := hrel
        have hll : Hid ((low k v).length = k) := Lib.hid (low_length k v)
        by_cases hlt : k < n
        · have hd := div_bound v k hv0 hv1
          have hds : Hid (v / 256 ^ (k + 1) = v / 256 ^ k / 256) := Lib.hid (div_step v k hv0)
          have hls : Hid (low (k + 1) v = [v / 256 ^ k % 256] ++ low k v) := Lib.hid rfl
          obtain ⟨q, hq⟩ : ∃ q, q = v / 256 ^ k := ⟨_, rfl⟩
          rw [← hq] at hd hds hls ⊢
          clear hq
          obtain ⟨Lo, hLo⟩ : ∃ Lo, Lo = low k v := ⟨_, rfl⟩
          rw [← hLo] at hO hls hll
          clear hLo
          obtain ⟨Al, cl, rfl, hR⟩ := own_reads hO.out
          have hO1 := own_lit wr w.heap.size 5 .u8 [q % 256] hB.out.size (by simp)
          have hR1 := Aside0.mk (hR.below ((Below.refl _ _).alloc (Nat.le_refl _) (.cells (nums .u8 [q % 256]).toArray 5)))
          have hO1 := Aside0.mk hO1
          have hB1 := Aside0.mk (below_alloc hB.out (.cells (nums .u8 [q % 256]).toArray 5))
          clear hR
          go_wp2_with (at_builtin; refine print_append_row w.heap.size rfl (.tmp 21) (.tmp 22) 31 5 .u8 1 rfl Tryd.underlying31 infoU8 (by omega) _ [q % 256] Lo Al Lo.length cl rfl rfl hO1.out hR1.out hB1.out hB1.out.size ?_ ?_)
          · simp only [hll.out, List.length_singleton]; omega
          · intro v1 w2 hO2 hB2 _ _
            have hO3 : Aside0 (w2.ownsRow w.heap.size 5 1 v1 (low (k + 1) v).length (nums .u8 (low (k + 1) v))) := ⟨by rw [hls.out]; exact hO2⟩
            clear hO2 hO hB hO1 hR1 hB1
            go_wp2
            go_roundw
            case rel => exact ⟨k + 1, by omega, by go_num, by rw [hds.out], hO3, ⟨hB2⟩⟩
            case measure => simp [intOf]; omega
        · obtain rfl : k = n := by omega
          obtain ⟨Lo, hLo⟩ : ∃ Lo, Lo = low k v := ⟨_, rfl⟩
          have hfin : Aside0 (Lo = low (clamp8 a1) v) := ⟨by rw [hLo, hcl.out]⟩
          rw [← hLo] at hO hll
          clear hLo
          obtain ⟨Al, cl, rfl, hR⟩ := own_reads hO.out
          have hR1 := Aside0.mk (hR.below ((Below.refl _ _).alloc (Nat.le_refl _) (.cells #[] 5)))
          have hO1 := Aside0.mk (own_lit wr w.heap.size 5 .u8 [] hB.out.size (by simp))
          have hB1 := Aside0.mk (below_alloc hB.out (.cells #[] 5))
          have hX1 := Aside0.mk ((hb.below hB.out).below ((Below.refl _ _).alloc (Nat.le_refl _) (.cells #[] 5)))
          clear hR
          go_wp2_with (at_builtin; refine print_append_row w.heap.size rfl (.tmp 26) (.tmp 27) 31 5 .u8 1 rfl Tryd.underlying31 infoU8 (by omega) _ [] xs A l c rfl rfl hO1.out hX1.out hB1.out hB1.out.size ?_ ?_)
          · simp only [List.length_nil]; omega
          · intro v1 w2 hO2 hB2 hg2 _
            have hO3 := own_elder hO.out ((Below.refl _ _).alloc (Nat.le_refl _) (.cells #[] 5)) hg2 (Nat.le_refl _)
            have hR2 := Aside0.mk (own_readsA hO3)
            have hO2 := Aside0.mk hO2
            have hB2 := Aside0.mk hB2
            clear hO hB hO1 hR1 hB1 hX1 hO3 hg2
            go_wp2_with (at_builtin; refine print_append_row w.heap.size rfl (.tmp 28) (.tmp 29) 31 5 .u8 1 rfl Tryd.underlying31 infoU8 (by omega) _ xs Lo Al Lo.length cl rfl rfl hO2.out hR2.out hB2.out hB2.out.size ?_ ?_)
            · simp only [hxl.out, hll.out]; omega
            · intro v3 w3 hO3 hB3 _ _
              have hO3 : Aside0 (w3.ownsRow w.heap.size 5 1 v3 (xs ++ low (clamp8 a1) v).length (nums .u8 (xs ++ low (clamp8 a1) v))) := ⟨by rw [← hfin.out, List.length_append]; exact hO3⟩
              clear hO2 hR2 hfin
              go_wp2
              go_ret
              exact ⟨_, rfl, hO3.out, hB3⟩
end Go.Proofs.YteapmebmgaggcaaDoor
