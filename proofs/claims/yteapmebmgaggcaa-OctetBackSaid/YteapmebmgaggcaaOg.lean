import Derived.Test.YteapmebmgaggcaaOf
namespace Go.Proofs.Yteapmebmgaggcaa
open Go.RowKit Go.Proofs.YteapmebmgaggcaaW.PrintWords
set_option linter.unusedVariables false
set_option linter.unusedSimpArgs false

theorem below_iterAt {B k p : Nat} {w W : World} {s : ByteArray} (h : Below B w W) (hk : B ≤ k) : Below B w (W.iterAt k s p) :=
  h.trans ⟨rfl, rfl, rfl, by simp [World.iterAt], fun i hi => by simp only [World.iterAt]; rw [Array.getElem?_setIfInBounds_ne (by omega)]⟩
theorem iterAt_size (w : World) (k : Nat) (s : ByteArray) (p : Nat) : (w.iterAt k s p).heap.size = w.heap.size := by simp [World.iterAt]
theorem iterAt_there {w : World} {k p q : Nat} {s : ByteArray} (h : w.heap[k]? = some (.stringIter s q)) : (w.iterAt k s p).heap[k]? = some (.stringIter s p) := by
  have hlt : k < w.heap.size := (Array.getElem?_eq_some_iff.1 h).1
  simp [World.iterAt, hlt]
theorem pairs_half {bs : List Int} {k : Nat} (hk : k % 2 = 1) : pairsN bs ((k + 1) / 2) = pairsN bs (k / 2) ++ [16 * digv (bs.getD (k - 1) 0) + digv (bs.getD k 0)] := by
  have h1 : (k + 1) / 2 = k / 2 + 1 := by omega
  have h2 : 2 * (k / 2) = k - 1 := by omega
  have h3 : 2 * (k / 2) + 1 = k := by omega
  rw [h1, pairsN_succ, h3, h2]

/-- 'octet.Unhex'. -/
theorem unhex_any (s : ByteArray) (w : World) (hs : s.size ≤ 1000000) :
    Calls Try.prog 13 #[.string s] w fun e w' => UnhexIs (bytesOf s) w.heap.size (.int .i64 0) (.int .i64 8) e w' ∧ Below w.heap.size w w' := by
  obtain ⟨bs, hbs⟩ : ∃ bs, bs = bytesOf s := ⟨_, rfl⟩
  have hbl : Hid (bs.length = s.size) := Lib.hid (by rw [hbs]; exact bytesOf_length s)
  have hrd : Aside0 (∀ k (h : k < s.size), digv ((Utf8.decode s k).1 : Int) = digv (bs.getD k 0) ∧ (0 ≤ digv (bs.getD k 0) → Utf8.decode s k = ((s[k]'h).toNat, 1))) := ⟨by rw [hbs]; exact rune_dig s⟩
  rw [← hbs]
  clear hbs
  go_enter Try.func13, Try.ntmps13
  go_wp2_with fail
  go_loopw [4, 5, 6] (fun u hi hf wr => ∃ (k : Nat) (h : Int), k ≤ s.size ∧ 0 ≤ h ∧ h < 16 ∧ hi = .int .u8 h ∧ hf = .bool (decide (k % 2 = 1)) ∧ Aside0 (0 < k → h = digv (bs.getD (k - 1) 0)) ∧ Aside0 (∀ j, j < k → 0 ≤ digv (bs.getD j 0)) ∧ Aside0 (wr.heap[w.heap.size]? = some (.stringIter s k)) ∧
      Aside0 (wr.ownsRow (w.heap.size + 1) 5 1 u (pairsN bs (k / 2)).length (nums .u8 (pairsN bs (k / 2)))) ∧ Aside0 (Below w.heap.size w wr)) (fun _ _ _ wr => s.size - wr.iterPos w.heap.size)
  case atStart => exact ⟨0, 0, Nat.zero_le _, by omega, by omega, rfl, rfl, ⟨fun h => absurd h (by omega)⟩, ⟨fun j hj => absurd hj (by omega)⟩, ⟨World.iter_heap w s 0⟩, ⟨World.ownsRow_nil _ _ _ _⟩, ⟨(Below.refl _ _).alloc (Nat.le_refl _) _⟩⟩
  case round =>
    obtain ⟨k, h, hk, h0, h16, rfl, rfl, hh, hall, hit, hO, hB⟩ := hrel
    by_cases hlt : k < s.size
    · have hnx : ∀ ty, (Instr.next (.pointer (some ⟨w.heap.size, 0, none⟩)) true ty).run Try.prog wr = _ := fun ty => Lib.run_next_any_at wr w.heap.size s k ty hit.out hlt
      by_cases hd : 0 ≤ digv (bs.getD k 0)
      · have hw := (hrd.out k hlt).2 hd
        have hd16 := (digv_range (bs.getD k 0)).2
        have hr := (hrd.out k hlt).1
        rw [hw] at hr hnx
        have hpos : 0 ≤ digv ((s[k]'hlt).toNat : Int) := by rw [hr]; exact hd
        obtain ⟨d, hdd⟩ : ∃ d, d = digv (bs.getD k 0) := ⟨_, rfl⟩
        have hwc : ∀ W : World, Calls Try.prog 18 #[.int .i32 ((s[k]'hlt).toNat : Int)] W fun e w' => e = .returned (.tuple #[.int .u8 d, .bool true]) ∧ Below W.heap.size W w' := fun W => by
          have := worth_is ((s[k]'hlt).toNat : Int) W hpos
          rw [hr, ← hdd] at this
          exact this
        have hwc := Aside0.mk hwc
        rw [← hdd] at hd hd16
        have hall' : Aside0 (∀ j, j < k + 1 → 0 ≤ digv (bs.getD j 0)) := ⟨fun j hj => by
          rcases Nat.lt_or_ge j k with h | h
          · exact hall.out j h
          · obtain rfl : j = k := by omega
            rw [← hdd]; exact hd⟩
        have hlast : Aside0 (0 < k + 1 → d = digv (bs.getD (k + 1 - 1) 0)) := ⟨fun _ => hdd⟩
        have hdd' := Lib.hid hdd
        have hB0 := hB.out
        have hm0 := Lib.hid (iterPos_of hit.out)
        have hI0 := iterAt_there (p := k + 1) hit.out
        have hO0 := ownsRow_iterAt hO.out (Nat.lt_succ_self _) s (k + 1)
        have hB1 := below_iterAt (s := s) (p := k + 1) hB0 (Nat.le_refl _)
        have hsz := iterAt_size wr w.heap.size s (k + 1)
        have hlt0 : w.heap.size < wr.heap.size := (Array.getElem?_eq_some_iff.1 hit.out).1
        have hI0 := Aside0.mk hI0
        have hO0 := Aside0.mk hO0
        have hB1 := Aside0.mk hB1
        have hsz := Aside0.mk hsz
        clear hw hr hpos hall hit hO hB hB0 hdd
        by_cases hodd : k % 2 = 1
        · have hp := Aside0.mk (pairs_half (bs := bs) hodd)
          have hh' := Aside0.mk (hh.out (by omega))
          have hdec : Hid (decide ((k + 1) % 2 = 1) = false) := Lib.hid (by simp; omega)
          have hor := or_dig h d h0 h16 hd hd16
          have hpl : (pairsN bs (k / 2)).length ≤ 1000000 := by rw [pairsN_length]; omega
          rw [decide_eq_true hodd]
          clear hodd
          go_wp2_with fail
          refine (hwc.out _).mono ?_
          rintro e w2 ⟨rfl, hb2⟩
          have hlt2 : w.heap.size < w2.heap.size := by have h1 := hb2.size; rw [hsz.out] at h1; omega
          have hB2 := Aside0.mk (hB1.out.trans (hb2.mono (by rw [hsz.out]; omega)))
          have hI2 := Aside0.mk ((hb2.block w.heap.size (by rw [hsz.out]; exact hlt0)).trans hI0.out)
          have hO2 := Aside0.mk ((pw_own_below hO0.out hb2).alloc (.cells (nums .u8 [16 * h + d]).toArray 5))
          have hR2 := Aside0.mk (reads_new w2 .u8 5 [16 * h + d] (by simp))
          clear hb2 hI0 hB1 hO0 hsz hwc
          go_wp2_with (at_builtin; refine wpList_append_nums (w0 := w2.alloc (.cells (nums .u8 [16 * h + d]).toArray 5)) (w.heap.size + 1) rfl (.tmp 24) (.tmp 29) 22 5 .u8 1 rfl Try.underlying22 infoU8 (by omega) _ (pairsN bs (k / 2)) [16 * h + d] _ _ _ rfl rfl hO2.out hR2.out (Below.refl _ _) (by simp; omega) (by show ((pairsN bs (k / 2)).length + 1) * 1 ≤ _; omega) ?_)
          intro v3 w3 hO3 hB3 _ _
          have hO4 : Aside0 (w3.ownsRow (w.heap.size + 1) 5 1 v3 (pairsN bs ((k + 1) / 2)).length (nums .u8 (pairsN bs ((k + 1) / 2)))) := ⟨by rw [hp.out, ← hh'.out, ← hdd'.out, List.length_append]; exact hO3⟩
          have hI4 : Aside0 (w3.heap[w.heap.size]? = some (.stringIter s (k + 1))) := ⟨(hB3.block w.heap.size (by omega)).trans ((Below.heap_alloc w2 _ _ hlt2).trans hI2.out)⟩
          have hB4 : Aside0 (Below w.heap.size w w3) := ⟨(hB2.out.alloc (by omega) _).trans (hB3.mono (by omega))⟩
          clear hO3 hB3 hO2 hR2 hI2 hB2
          have hm := Lib.hid (iterPos_of hI4.out)
          go_wp2
          go_roundw
          case rel => exact ⟨k + 1, d, by omega, hd, hd16, rfl, by rw [hdec.out], hlast, hall', hI4, hO4, hB4⟩
          case measure => rw [hm0.out, hm.out]; omega
        · have hp : Hid (pairsN bs ((k + 1) / 2) = pairsN bs (k / 2)) := Lib.hid (by rw [show (k + 1) / 2 = k / 2 by omega])
          have hdec : Hid (decide ((k + 1) % 2 = 1) = true) := Lib.hid (by simp; omega)
          rw [decide_eq_false hodd]
          clear hodd
          go_wp2_with fail
          refine (hwc.out _).mono ?_
          rintro e w2 ⟨rfl, hb2⟩
          have hB2 := Aside0.mk (hB1.out.trans (hb2.mono (by rw [hsz.out]; omega)))
          have hI2 := Aside0.mk ((hb2.block w.heap.size (by rw [hsz.out]; exact hlt0)).trans hI0.out)
          have hO2 : Aside0 (w2.ownsRow (w.heap.size + 1) 5 1 u4 (pairsN bs ((k + 1) / 2)).length (nums .u8 (pairsN bs ((k + 1) / 2)))) := ⟨by rw [hp.out]; exact pw_own_below hO0.out hb2⟩
          have hm := Lib.hid (iterPos_of hI2.out)
          clear hb2 hI0 hB1 hO0 hsz hwc
          go_wp2
          go_roundw
          case rel => exact ⟨k + 1, d, by omega, hd, hd16, rfl, by rw [hdec.out], hlast, hall', hI2, hO2, hB2⟩
          case measure => rw [hm0.out, hm.out]; omega
      · have hr := (hrd.out k hlt).1
        have hneg : digv ((Utf8.decode s k).1 : Int) < 0 := by rw [hr]; omega
        clear hr
        have hno : Aside0 (¬ HexOk bs) := ⟨fun hx => hd (hx.2 k (by rw [hbl.out]; exact hlt))⟩
        go_wp2_with (go_at_call 18; refine (worth_isnt _ _ hneg).mono ?_; rintro e w2 ⟨rfl, hb2⟩)
        go_ret2
        exact ⟨.inr ⟨hno.out, rfl⟩, (below_iterAt hB.out (Nat.le_refl _)).trans (hb2.mono (by rw [iterAt_size]; exact hB.out.size))⟩
    · obtain rfl : k = s.size := by omega
      have hnx : ∀ ty, (Instr.next (.pointer (some ⟨w.heap.size, 0, none⟩)) true ty).run Try.prog wr = _ := fun ty => Lib.run_next_end_at wr w.heap.size s s.size ty hit.out (by omega)
      by_cases hodd : s.size % 2 = 1
      · have hno : Aside0 (¬ HexOk bs) := ⟨fun hx => by have := hx.1; rw [hbl.out] at this; omega⟩
        rw [decide_eq_true hodd]
        go_wp2_with fail
        go_ret2
        exact ⟨.inr ⟨hno.out, rfl⟩, hB.out⟩
      · have hyes : Aside0 (HexOk bs) := ⟨⟨by rw [hbl.out]; omega, fun j hj => hall.out j (by rw [hbl.out] at hj; exact hj)⟩⟩
        have hO' : Aside0 (wr.ownsRow w.heap.size 5 1 u4 (pairsN bs (bs.length / 2)).length (nums .u8 (pairsN bs (bs.length / 2)))) := ⟨by rw [hbl.out]; exact own_weaken hO.out (by omega)⟩
        rw [decide_eq_false hodd]
        go_wp2_with fail
        go_ret2
        exact ⟨.inl ⟨hyes.out, _, rfl, hO'.out⟩, hB.out⟩
end Go.Proofs.Yteapmebmgaggcaa
