import Derived.Test.YteapmebmgaggcaaOl
namespace Go.Proofs.Yteapmebmgaggcaa
open Go.RowKit Go.Proofs.YteapmebmgaggcaaW.PrintWords
set_option linter.unusedVariables false
set_option linter.unusedSimpArgs false

/-- So many bytes the i-th number is put in. -/
def wd (zs : List Int) (i : Nat) : Nat := if i < zs.length then (zs.getD i 0 % 9).toNat else 8
theorem wd_le (zs : List Int) (i : Nat) : wd zs i ≤ 8 := by unfold wd; split <;> omega
theorem reads_natK {w : World} {q : IntKind} {A : Option Addr} {l : Nat} {xs : List Int} (h : ReadsInt w q A l xs) (k : Nat) (hk : k < l) : ∃ ad, A = some ad ∧ w.cell? (ad.add k) = some (.int q (xs.getD k 0)) := by
  obtain ⟨ad, e, hc⟩ := h.2.2 (by omega)
  exact ⟨ad, e, hc k hk⟩
/-- 'width'. -/
theorem width_any (A : Option Addr) (l c : Nat) (zs : List Int) (i : Nat) (w : World) (hb : ReadsInt w .u8 A l zs) (hx : Byt zs) :
    Calls Try.prog 17 #[.slice A l c, .int .i64 i] w fun e w' => e = .returned (.int .i64 (wd zs i)) ∧ w' = w := by
  have hl := hb.1
  have hl9 := hb.2.1
  by_cases h : i < l
  · obtain ⟨ad, rfl, hc⟩ := reads_nat hb i h
    have hr := hx.getD i
    have hw : Hid ((wd zs i : Int) = zs.getD i 0 % 9) := Lib.hid (by unfold wd; rw [if_pos (by omega)]; omega)
    obtain ⟨r, hr'⟩ : ∃ r, r = zs.getD i 0 := ⟨_, rfl⟩
    rw [← hr'] at hr hc hw
    clear hr' hl
    go_enter Try.func17, Try.ntmps17
    go_wp2_with fail
    go_ret
    exact ⟨by rw [hw.out]; rfl, rfl⟩
  · have hw : Hid ((wd zs i : Int) = 8) := Lib.hid (by unfold wd; rw [if_neg (by omega)]; rfl)
    clear hl
    go_enter Try.func17, Try.ntmps17
    go_wp2_with fail
    go_ret
    exact ⟨by rw [hw.out]; rfl, rfl⟩

/-- The bytes of the numbers k, .., k + m - 1. -/
def rst (ns zs : List Int) (k m : Nat) : List Int := (List.range' k m).flatMap fun j => low (wd zs j) (ns.getD j 0)
theorem rst_cons (ns zs : List Int) (k m : Nat) : rst ns zs k (m + 1) = low (wd zs k) (ns.getD k 0) ++ rst ns zs (k + 1) m := by simp [rst, List.range'_succ]
theorem rst_snoc (ns zs : List Int) (k : Nat) : rst ns zs 0 (k + 1) = rst ns zs 0 k ++ low (wd zs k) (ns.getD k 0) := by
  simp [rst, ← List.range_eq_range', List.range_succ]
theorem rst_length (ns zs : List Int) (k m : Nat) : (rst ns zs k m).length ≤ 8 * m := by
  induction m generalizing k with
  | zero => simp [rst]
  | succ m ih =>
    have := ih (k + 1)
    have h8 := wd_le zs k
    rw [rst_cons, List.length_append, low_length]; omega
theorem rst_byt (ns zs : List Int) (k m : Nat) : Byt (rst ns zs k m) := by
  induction m generalizing k with
  | zero => exact Byt.nil
  | succ m ih => rw [rst_cons]; exact (low_byt _ _).append (ih _)

theorem own_cap {w : World} {base m n c : Nat} {e : TypeId} {A : Option Addr} {xs : List Value} (h : w.ownsRow base e 1 (.slice A m c) n xs) : n ≤ c := by
  rcases h.2 with ⟨h1, h2⟩ | ⟨g, cap, cur, h1, _, _, h2, _⟩
  · omega
  · injection h1 with _ _ h3; omega

theorem numb_take_low (n : Nat) (v : Int) (T : List Int) : (low n v ++ T).take n = low n v := by
  have := low_length n v
  rw [List.take_append_of_le_length (by omega), List.take_of_length_le (by omega)]
theorem get_low (A : Option Addr) (c : Nat) (R T : List Int) (n : Nat) (v : Int) (hR : R = low n v ++ T) (hn : n ≤ 8) (hx : Byt R) (hc : R.length ≤ c) (w : World) (hb : ReadsInt w .u8 A R.length R) :
    Calls Try.prog 11 #[.slice A R.length c, .int .i64 n] w fun e w' => ∃ A' : Option Addr, e = .returned (.tuple #[.int .u64 (numb (low n v)), .slice A' T.length (c - n), .int .i64 0]) ∧ ReadsInt w' .u8 A' T.length T ∧ Drawn0 w w' := by
  have hl := low_length n v
  have hRl : R.length = n + T.length := by rw [hR, List.length_append, hl]
  refine (get_ok A R.length c R n w hb hx hc (by omega) (by omega) (by omega)).mono fun e w' ⟨A', he, hr, hd⟩ => ?_
  have e1 : R.take n = low n v := by rw [hR]; exact numb_take_low n v T
  have e2 : R.drop n = T := by rw [hR, List.drop_append_of_le_length (by omega), List.drop_of_length_le (by omega)]; rfl
  have e3 : R.length - n = T.length := by omega
  rw [Int.toNat_natCast] at he hr
  rw [e1, e3] at he
  rw [e2, e3] at hr
  exact ⟨A', he, hr, hd⟩

set_option maxHeartbeats 2000000 in
/-- 'OctetBack' answers true. -/
theorem octetBack_law (A : Option Addr) (l c : Nat) (ns : List Int) (A' : Option Addr) (l' c' : Nat) (zs : List Int) (w : World) (hn : ReadsInt w .u64 A l ns) (hnw : ∀ x ∈ ns, 0 ≤ x ∧ x < 18446744073709551616) (hz : ReadsInt w .u8 A' l' zs) (hzb : Byt zs) :
    Calls Try.prog 6 #[.slice A l c, .slice A' l' c'] w fun e w' => e = .returned (.bool true) ∧ Below w.heap.size w w' := by
  have hnl : Hid (ns.length = l) := Lib.hid hn.1
  have hl9 := hn.2.1
  have hl9' := hz.2.1
  have hng : ∀ k, 0 ≤ ns.getD k 0 ∧ ns.getD k 0 < 18446744073709551616 := fun k => by
    rw [List.getD_eq_getElem?_getD]
    rcases Nat.lt_or_ge k ns.length with hl | hl
    · rw [List.getElem?_eq_getElem hl]; exact hnw _ (List.getElem_mem hl)
    · rw [List.getElem?_eq_none hl]; exact ⟨by decide, by decide⟩
  replace hng := Aside0.mk hng
  have hrl := Aside0.mk (rst_length ns zs)
  have hrb := Aside0.mk (rst_byt ns zs)
  clear hnw
  go_enter Try.func6, Try.ntmps6
  go_wp2_with fail
  refine (awake_any _).mono ?_
  rintro e w1 ⟨rfl, hb1⟩
  by_cases hbig : 40 < l
  · go_wp2_with fail
    go_ret
    exact ⟨rfl, hb1⟩
  · have hn1 := Aside0.mk (hn.below hb1)
    have hz1 := Aside0.mk (hz.below hb1)
    replace hb1 := Aside0.mk hb1
    clear hn hz
    go_wp2_with fail
    go_loopw [5, 6] (fun u i wr => ∃ k : Nat, k ≤ l ∧ i = .int .i64 k ∧ Aside0 (wr.ownsRow w1.heap.size 5 1 u (rst ns zs 0 k).length (nums .u8 (rst ns zs 0 k))) ∧ Aside0 (Below w1.heap.size w1 wr)) (fun _ i _ => l - (intOf i).toNat)
    case atStart => exact ⟨0, Nat.zero_le _, rfl, ⟨World.ownsRow_nil _ _ _ _⟩, ⟨Below.refl _ _⟩⟩
    case round =>
      obtain ⟨k, hk, rfl, hO, hB⟩ := hrel
      by_cases hlt : k < l
      · have hN := hn1.out.below hB.out
        have hZ := hz1.out.below hB.out
        obtain ⟨ad, rfl, hc⟩ := reads_natK hN k hlt
        obtain ⟨A2, c2, rfl, hR⟩ := own_reads hO.out
        have hv := hng.out k
        have hlen := hrl.out 0 k
        have hw8 := wd_le zs k
        have hcl : Hid (rst ns zs 0 k ++ low (clamp8 (wd zs k)) (ns.getD k 0) = rst ns zs 0 (k + 1)) := Lib.hid (by rw [clamp8_in _ (by omega) (by omega), Int.toNat_natCast]; exact (rst_snoc ns zs k).symm)
        have hW := Aside0.mk (fun W (h : ReadsInt W .u8 A' l' zs) => width_any A' l' c' zs k W h hzb)
        obtain ⟨v, hvv⟩ : ∃ v, v = ns.getD k 0 := ⟨_, rfl⟩
        rw [← hvv] at hv hc hcl
        replace hZ := Aside0.mk hZ
        replace hR := Aside0.mk hR
        clear hN hvv hO
        go_wp2_with fail
        go_region_with (first | (go_at_call 17; refine (hW.out _ (by exact hZ.out)).mono ?_; rintro e W ⟨rfl, rfl⟩) | (go_at_call 9; refine (put_as A2 _ c2 (rst ns zs 0 k) (rst ns zs 0 (k + 1)) _ _ _ (by exact hR.out) (by omega) hv.1 hv.2 hcl.out).mono ?_; rintro e w3 ⟨u3, rfl, hO3, hB3⟩; have hO4 : Aside0 (w3.ownsRow w1.heap.size 5 1 u3 (rst ns zs 0 (k + 1)).length (nums .u8 (rst ns zs 0 (k + 1)))) := ⟨own_weaken hO3 hB.out.size⟩; have hB4 : Aside0 (Below w1.heap.size w1 w3) := ⟨below_then hB.out.drew hB.out.size hB3⟩; clear hO3 hB3))
        all_goals
          clear hc hR hZ hW
          go_wp2
          go_roundw
          case rel => exact ⟨k + 1, by omega, by go_num, hO4, hB4⟩
          case measure => simp [intOf]; omega
      · obtain rfl : k = l := by omega
        obtain ⟨A2, c2, rfl, hR⟩ := own_reads hO.out
        have hcc : Aside0 ((rst ns zs 0 k).length ≤ c2) := ⟨own_cap hO.out⟩
        replace hR := Aside0.mk hR
        have hB1 := Aside0.mk (below_then hb1.out hb1.out.size hB.out)
        have hnr := Aside0.mk (hn1.out.below hB.out)
        have hzr := Aside0.mk (hz1.out.below hB.out)
        clear hO hB hb1 hn1 hz1
        go_wp2_with fail
        go_loopw [5, 7] (fun u i wq => ∃ (m : Nat) (A3 : Option Addr) (c3 : Nat), m ≤ k ∧ i = .int .i64 m ∧ u = .slice A3 (rst ns zs m (k - m)).length c3 ∧ Aside0 ((rst ns zs m (k - m)).length ≤ c3) ∧ Aside0 (ReadsInt wq .u8 A3 (rst ns zs m (k - m)).length (rst ns zs m (k - m))) ∧ Aside0 (Below wr.heap.size wr wq)) (fun _ i _ => k - (intOf i).toNat)
        case atStart => exact ⟨0, A2, c2, Nat.zero_le _, rfl, rfl, hcc, hR, ⟨Below.refl _ _⟩⟩
        case round =>
          obtain ⟨m, A3, c3, hm, rfl, rfl, hc3, hR3, hB3⟩ := hrel
          by_cases hlt2 : m < k
          · have hN := hnr.out.below hB3.out
            have hZ := Aside0.mk (hzr.out.below hB3.out)
            obtain ⟨ad, rfl, hc⟩ := reads_natK hN m hlt2
            have hv := hng.out m
            have hlen := hrl.out m (k - m)
            have hlen2 := hrl.out (m + 1) (k - (m + 1))
            have hbyt := Aside0.mk (hrb.out m (k - m))
            have hw8 := wd_le zs m
            have hW := Aside0.mk (fun W (h : ReadsInt W .u8 A' l' zs) => width_any A' l' c' zs m W h hzb)
            have hRT : Hid (rst ns zs m (k - m) = low (wd zs m) (ns.getD m 0) ++ rst ns zs (m + 1) (k - (m + 1))) := Lib.hid (by rw [show k - m = (k - (m + 1)) + 1 by omega]; exact rst_cons ns zs m (k - (m + 1)))
            obtain ⟨v, hvv⟩ : ∃ v, v = ns.getD m 0 := ⟨_, rfl⟩
            obtain ⟨n, hnn⟩ : ∃ n, n = wd zs m := ⟨_, rfl⟩
            obtain ⟨R, hRR⟩ : ∃ R, R = rst ns zs m (k - m) := ⟨_, rfl⟩
            obtain ⟨T, hTT⟩ : ∃ T, T = rst ns zs (m + 1) (k - (m + 1)) := ⟨_, rfl⟩
            rw [← hvv] at hv hc hRT
            rw [← hnn] at hw8 hW hRT
            rw [← hRR] at hlen hbyt hc3 hR3 hRT ⊢
            rw [← hTT] at hlen2 hRT
            replace hTT := Lib.hid hTT
            have hcl : Hid ([] ++ low (clamp8 (n : Int)) v = low n v) := Lib.hid (by rw [clamp8_in _ (by omega) (by omega), Int.toNat_natCast]; rfl)
            have hnl8 : (low n v).length ≤ 8 := by rw [low_length]; exact hw8
            have hlb := Aside0.mk (low_byt n v)
            clear hN hvv hnn hRR hng hrl hrb
            have hgl := get_low A3 c3 R T n v hRT.out hw8 hbyt.out hc3.out
            replace hgl := Aside0.mk hgl
            obtain ⟨x, hxx⟩ : ∃ x, x = numb (low n v) := ⟨_, rfl⟩
            have hxl := Aside0.mk hxx
            rw [← hxx] at hgl
            clear hxx
            go_wp2_with fail
            refine (hW.out _ (by exact hZ.out)).mono ?_
            rintro e W ⟨rfl, rfl⟩
            go_wp2_with fail
            refine (hgl.out _ (by exact hR3.out)).mono ?_
            rintro e w5 ⟨A5, rfl, hR5, hD5⟩
            have hZ5 := Aside0.mk (hZ.out.below hD5.below)
            have hc5 := pw_cell_below hD5.below hc
            replace hR5 := Aside0.mk hR5
            have hB5 := Aside0.mk (below_then hB3.out hB3.out.size hD5.below)
            have hz5 := Aside0.mk hB5.out.size
            clear hR3 hB3 hD5 hc hZ
            go_wp2_with fail
            have hc9 : Aside0 ((rst ns zs (m + 1) (k - (m + 1))).length ≤ c3 - n) := ⟨by have h1 := congrArg List.length hRT.out; rw [List.length_append, low_length] at h1; have := hc3.out; rw [← hTT.out]; omega⟩
            refine wp_region_any (by kernel_rfl) ?_
            (try (change wpAny _ _ _ _ _ _ _ (World.drew _)))
            refine wpAny_take (i := 0) (v := ?_) rfl (by kernel_rfl) (by kernel_rfl) (by kernel_rfl) (fun _ _ _ h => h) (Or.inl ⟨by kernel_rfl, ?_⟩) ?_
            rotate_left
            · intro w; go_simp; try with_reducible rfl
            refine wpAny_take (i := 1) (v := ?_) rfl (by kernel_rfl) (by kernel_rfl) (by kernel_rfl) (fun _ _ _ h => h) (Or.inl ⟨by kernel_rfl, ?_⟩) ?_
            rotate_left
            · intro w; go_simp; try with_reducible rfl
            refine wpAny_take (i := 2) (v := ?_) rfl (by kernel_rfl) (by kernel_rfl) (by kernel_rfl) (fun _ _ _ h => h) (Or.inl ⟨by kernel_rfl, ?_⟩) ?_
            rotate_left
            · intro w; go_simp; try with_reducible rfl
            refine wpAny_take (i := 3) (v := ?_) rfl (by kernel_rfl) (by kernel_rfl) (by kernel_rfl) (fun _ _ _ h => h) (Or.inl ⟨by kernel_rfl, ?_⟩) ?_
            rotate_left
            · intro w; go_simp; try with_reducible rfl
            refine wpAny_take (i := 4) (v := ?_) rfl (by kernel_rfl) (by kernel_rfl) (by kernel_rfl) (fun _ _ _ h => h) (Or.inl ⟨by kernel_rfl, ?_⟩) ?_
            rotate_left
            · intro w; go_simp; try with_reducible rfl
            refine wpAny_take (i := 5) (v := ?_) rfl (by kernel_rfl) (by kernel_rfl) (by kernel_rfl) (fun _ _ _ h => h) (Or.inl ⟨by kernel_rfl, ?_⟩) ?_
            rotate_left
            · intro w; go_simp; try with_reducible rfl
            refine wpAny_take (i := 7) (v := ?_) rfl (by kernel_rfl) (by kernel_rfl) (by kernel_rfl) (fun _ _ _ h => h) (Or.inl ⟨by kernel_rfl, ?_⟩) ?_
            rotate_left
            · intro w; go_simp; try with_reducible rfl
            refine wpAny_take (i := 8) (v := ?_) rfl (by kernel_rfl) (by kernel_rfl) (by kernel_rfl) (fun _ _ _ h => h) (Or.inl ⟨by kernel_rfl, ?_⟩) ?_
            rotate_left
            · intro w; go_simp; try with_reducible rfl
            refine wpAny_ready (rs := [6, 9]) (by kernel_rfl) (by simp) ?_
            refine AllReady.cons rfl (fun K hK => ?_) ?_
            · go_simp
              go_wp2_with (go_at_call 17; refine (hW.out _ (by exact hZ5.out)).mono ?_; rintro e W ⟨rfl, rfl⟩)
              refine wpAny_ready (rs := [9]) (by kernel_rfl) (by simp) ?_
              refine AllReady.cons rfl (fun K hK => ?_) ?_
              · go_simp
                refine hK _ _ ?_
                clear hK K
                refine wpAny_ready (rs := [10]) (by kernel_rfl) (by simp) ?_
                refine AllReady.cons rfl (fun K hK => ?_) ?_
                · go_simp
                  refine hK _ _ ?_
                  clear hK K
                  refine wpAny_ready (rs := [11]) (by kernel_rfl) (by simp) ?_
                  refine AllReady.cons rfl (fun K hK => ?_) ?_
                  · go_simp
                    go_wp2_with (go_at_call 10; refine (refput_as none 0 0 [] (low n v) _ _ _ ⟨rfl, by omega, fun h => absurd h (by omega)⟩ (by omega) hv.1 hv.2 hcl.out).mono ?_; rintro e w6 ⟨u6, rfl, hO6, hB6⟩; obtain ⟨A6, c6, rfl, hR6⟩ := own_reads hO6; replace hR6 := Aside0.mk hR6; have hR7 : Aside0 (ReadsInt w6 .u8 A5 T.length T) := ⟨ReadsInt.below (w := w5.drew) hR5.out hB6⟩; have hB7 : Aside0 (Below wr.heap.size wr w6) := ⟨below_then hB5.out.drew hB5.out.size hB6⟩; clear hO6 hB6)
                    refine wpAny_ready (rs := [12]) (by kernel_rfl) (by simp) ?_
                    refine AllReady.cons rfl (fun K hK => ?_) ?_
                    · go_simp
                      go_wp2_with (go_at_call 12; refine (number_any _ _ _ (low n v) _ (by exact hR6.out) hlb.out (by omega)).mono ?_; rintro e w7 ⟨rfl, rfl⟩; rw [← hxl.out])
                      refine wpAny_take (i := 13) (v := ?_) rfl (by kernel_rfl) (by kernel_rfl) (by kernel_rfl) (fun _ _ _ h => h) (Or.inl ⟨by kernel_rfl, ?_⟩) ?_
                      rotate_left
                      · intro w; go_simp; try with_reducible rfl
                      refine wpAny_take (i := 14) (v := ?_) rfl (by kernel_rfl) (by kernel_rfl) (by kernel_rfl) (fun _ _ _ h => h) (Or.inl ⟨by kernel_rfl, ?_⟩) ?_
                      rotate_left
                      · intro w; go_simp; try with_reducible rfl
                      refine wpAny_done (by kernel_rfl) ?_ _
                      clear hZ5 hc5 hR5 hB5 hW hgl
                      go_wp2
                      go_roundw
                      case rel => exact ⟨m + 1, A5, c3 - n, by omega, by go_num, by rw [hTT.out], hc9, by rw [hTT.out] at hR7; exact hR7, hB7⟩
                      case measure => simp [intOf]; omega
                    exact AllReady.nil
                  exact AllReady.nil
                exact AllReady.nil
              exact AllReady.nil
            refine AllReady.cons rfl (fun K hK => ?_) ?_
            · go_simp
              refine hK _ _ ?_
              clear hK K
              refine wpAny_ready (rs := [6, 10]) (by kernel_rfl) (by simp) ?_
              refine AllReady.cons rfl (fun K hK => ?_) ?_
              · go_simp
                go_wp2_with (go_at_call 17; refine (hW.out _ (by exact hZ5.out)).mono ?_; rintro e W ⟨rfl, rfl⟩)
                refine wpAny_ready (rs := [10]) (by kernel_rfl) (by simp) ?_
                refine AllReady.cons rfl (fun K hK => ?_) ?_
                · go_simp
                  refine hK _ _ ?_
                  clear hK K
                  refine wpAny_ready (rs := [11]) (by kernel_rfl) (by simp) ?_
                  refine AllReady.cons rfl (fun K hK => ?_) ?_
                  · go_simp
                    go_wp2_with (go_at_call 10; refine (refput_as none 0 0 [] (low n v) _ _ _ ⟨rfl, by omega, fun h => absurd h (by omega)⟩ (by omega) hv.1 hv.2 hcl.out).mono ?_; rintro e w6 ⟨u6, rfl, hO6, hB6⟩; obtain ⟨A6, c6, rfl, hR6⟩ := own_reads hO6; replace hR6 := Aside0.mk hR6; have hR7 : Aside0 (ReadsInt w6 .u8 A5 T.length T) := ⟨ReadsInt.below (w := w5.drew) hR5.out hB6⟩; have hB7 : Aside0 (Below wr.heap.size wr w6) := ⟨below_then hB5.out.drew hB5.out.size hB6⟩; clear hO6 hB6)
                    refine wpAny_ready (rs := [12]) (by kernel_rfl) (by simp) ?_
                    refine AllReady.cons rfl (fun K hK => ?_) ?_
                    · go_simp
                      go_wp2_with (go_at_call 12; refine (number_any _ _ _ (low n v) _ (by exact hR6.out) hlb.out (by omega)).mono ?_; rintro e w7 ⟨rfl, rfl⟩; rw [← hxl.out])
                      refine wpAny_take (i := 13) (v := ?_) rfl (by kernel_rfl) (by kernel_rfl) (by kernel_rfl) (fun _ _ _ h => h) (Or.inl ⟨by kernel_rfl, ?_⟩) ?_
                      rotate_left
                      · intro w; go_simp; try with_reducible rfl
                      refine wpAny_take (i := 14) (v := ?_) rfl (by kernel_rfl) (by kernel_rfl) (by kernel_rfl) (fun _ _ _ h => h) (Or.inl ⟨by kernel_rfl, ?_⟩) ?_
                      rotate_left
                      · intro w; go_simp; try with_reducible rfl
                      refine wpAny_done (by kernel_rfl) ?_ _
                      clear hZ5 hc5 hR5 hB5 hW hgl
                      go_wp2
                      go_roundw
                      case rel => exact ⟨m + 1, A5, c3 - n, by omega, by go_num, by rw [hTT.out], hc9, by rw [hTT.out] at hR7; exact hR7, hB7⟩
                      case measure => simp [intOf]; omega
                    exact AllReady.nil
                  exact AllReady.nil
                exact AllReady.nil
              refine AllReady.cons rfl (fun K hK => ?_) ?_
              · go_simp
                refine hK _ _ ?_
                clear hK K
                refine wpAny_ready (rs := [6]) (by kernel_rfl) (by simp) ?_
                refine AllReady.cons rfl (fun K hK => ?_) ?_
                · go_simp
                  go_wp2_with (go_at_call 17; refine (hW.out _ (by exact hZ5.out)).mono ?_; rintro e W ⟨rfl, rfl⟩)
                  refine wpAny_ready (rs := [11]) (by kernel_rfl) (by simp) ?_
                  refine AllReady.cons rfl (fun K hK => ?_) ?_
                  · go_simp
                    go_wp2_with (go_at_call 10; refine (refput_as none 0 0 [] (low n v) _ _ _ ⟨rfl, by omega, fun h => absurd h (by omega)⟩ (by omega) hv.1 hv.2 hcl.out).mono ?_; rintro e w6 ⟨u6, rfl, hO6, hB6⟩; obtain ⟨A6, c6, rfl, hR6⟩ := own_reads hO6; replace hR6 := Aside0.mk hR6; have hR7 : Aside0 (ReadsInt w6 .u8 A5 T.length T) := ⟨ReadsInt.below (w := w5.drew) hR5.out hB6⟩; have hB7 : Aside0 (Below wr.heap.size wr w6) := ⟨below_then hB5.out.drew hB5.out.size hB6⟩; clear hO6 hB6)
                    refine wpAny_ready (rs := [12]) (by kernel_rfl) (by simp) ?_
                    refine AllReady.cons rfl (fun K hK => ?_) ?_
                    · go_simp
                      go_wp2_with (go_at_call 12; refine (number_any _ _ _ (low n v) _ (by exact hR6.out) hlb.out (by omega)).mono ?_; rintro e w7 ⟨rfl, rfl⟩; rw [← hxl.out])
                      refine wpAny_take (i := 13) (v := ?_) rfl (by kernel_rfl) (by kernel_rfl) (by kernel_rfl) (fun _ _ _ h => h) (Or.inl ⟨by kernel_rfl, ?_⟩) ?_
                      rotate_left
                      · intro w; go_simp; try with_reducible rfl
                      refine wpAny_take (i := 14) (v := ?_) rfl (by kernel_rfl) (by kernel_rfl) (by kernel_rfl) (fun _ _ _ h => h) (Or.inl ⟨by kernel_rfl, ?_⟩) ?_
                      rotate_left
                      · intro w; go_simp; try with_reducible rfl
                      refine wpAny_done (by kernel_rfl) ?_ _
                      clear hZ5 hc5 hR5 hB5 hW hgl
                      go_wp2
                      go_roundw
                      case rel => exact ⟨m + 1, A5, c3 - n, by omega, by go_num, by rw [hTT.out], hc9, by rw [hTT.out] at hR7; exact hR7, hB7⟩
                      case measure => simp [intOf]; omega
                    exact AllReady.nil
                  exact AllReady.nil
                exact AllReady.nil
              exact AllReady.nil
            exact AllReady.nil
          · obtain rfl : m = k := by omega
            have e0 : Hid (rst ns zs m (m - m) = []) := Lib.hid (by rw [Nat.sub_self]; rfl)
            rw [e0.out]
            have hB9 := Aside0.mk (below_then hB1.out hB1.out.size hB3.out)
            clear hR3 hB3 hc3
            go_wp2_with fail
            go_ret
            exact ⟨rfl, hB9.out⟩
end Go.Proofs.Yteapmebmgaggcaa
