import Derived.Test.YteapmebmgaggcaaOg
namespace Go.Proofs.Yteapmebmgaggcaa
open Go.RowKit Go.Proofs.YteapmebmgaggcaaW.PrintWords
set_option linter.unusedVariables false
set_option linter.unusedSimpArgs false

theorem str_at (s : ByteArray) (i : Int) (h0 : 0 ≤ i) (h1 : i < s.size) (W : World) : (Instr.index 9 (.string s) (.int .i64 i)).run Try.prog W = .ok (.int .u8 ((bytesOf s).getD i.toNat 0)) W := by
  rw [run_index_string W 9 s .i64 i Try.underlying9, dif_pos ⟨h0, h1⟩]
  have hr := rd_bytesOf s i
  rw [← bt_at s i (by omega)] at hr
  rw [← hr]; rfl
theorem bytesOf_byt (s : ByteArray) : Byt (bytesOf s) := by
  intro x hx
  simp only [bytesOf, List.mem_map] at hx
  obtain ⟨b, _, rfl⟩ := hx
  have := b.toNat_lt
  omega

/-- 'ringroadref02.Unhex'. -/
theorem refunhex_any (s : ByteArray) (w : World) (hs : s.size ≤ 1000000) :
    Calls Try.prog 14 #[.string s] w fun e w' => UnhexIs (bytesOf s) w.heap.size (.bool true) (.bool false) e w' ∧ Below w.heap.size w w' := by
  have hx0 := bytesOf_byt s
  have hat0 := str_at s
  obtain ⟨bs, hbs⟩ : ∃ bs, bs = bytesOf s := ⟨_, rfl⟩
  have hbl : Hid (bs.length = s.size) := Lib.hid (by rw [hbs]; exact bytesOf_length s)
  rw [← hbs] at hx0 hat0 ⊢
  have hx := Aside0.mk hx0
  have hat := Aside0.mk hat0
  clear hbs hx0 hat0
  by_cases hodd : s.size % 2 = 1
  · have hno : Aside0 (¬ HexOk bs) := ⟨fun hx => by have := hx.1; rw [hbl.out] at this; omega⟩
    go_enter Try.func14, Try.ntmps14
    go_wp2_with fail
    go_ret2
    exact ⟨.inr ⟨hno.out, rfl⟩, Below.refl _ _⟩
  · have hev : s.size % 2 = 0 := by omega
    have hev' := Lib.hid hev
    have hz : ((((s.size : Int) % 2) == 1) = false) := by simp; omega
    clear hodd hev
    go_enter Try.func14, Try.ntmps14
    go_wp2_with fail
    go_loopw [4, 5] (fun u i wr => ∃ m : Nat, 2 * m ≤ s.size ∧ i = .int .i64 (2 * (m : Int)) ∧ Aside0 (∀ j, j < 2 * m → 0 ≤ digv (bs.getD j 0)) ∧ Aside0 (wr.ownsRow w.heap.size 5 1 u (pairsN bs m).length (nums .u8 (pairsN bs m))) ∧ Aside0 (Below w.heap.size w wr)) (fun _ i _ => s.size - (intOf i).toNat)
    case atStart => exact ⟨0, by omega, rfl, ⟨fun j hj => absurd hj (by omega)⟩, ⟨World.ownsRow_nil _ _ _ _⟩, ⟨Below.refl _ _⟩⟩
    case round =>
      obtain ⟨m, hm, rfl, hall, hO, hB⟩ := hrel
      by_cases hlt : 2 * m < s.size
      · have hlt1 : 2 * m + 1 < s.size := by have := hev'.out; omega
        have h1 := hat.out (2 * (m : Int)) (by omega) (by omega)
        have h2 := hat.out (2 * (m : Int) + 1) (by omega) (by omega)
        have e1 : (2 * (m : Int)).toNat = 2 * m := by omega
        have e2 : (2 * (m : Int) + 1).toNat = 2 * m + 1 := by omega
        rw [e1] at h1
        rw [e2] at h2
        clear e1 e2
        have hb1 := hx.out.getD (2 * m)
        have hb2 := hx.out.getD (2 * m + 1)
        have hp : Hid (pairsN bs (m + 1) = pairsN bs m ++ [16 * digv (bs.getD (2 * m) 0) + digv (bs.getD (2 * m + 1) 0)]) := Lib.hid (pairsN_succ bs m)
        have hall1 : Aside0 (0 ≤ digv (bs.getD (2 * m) 0) → 0 ≤ digv (bs.getD (2 * m + 1) 0) → ∀ j, j < 2 * (m + 1) → 0 ≤ digv (bs.getD j 0)) := ⟨fun q1 q2 j hj => by
          rcases Nat.lt_or_ge j (2 * m) with h | h
          · exact hall.out j h
          · rcases Nat.eq_or_lt_of_le h with h' | h'
            · rw [← h']; exact q1
            · obtain rfl : j = 2 * m + 1 := by omega
              exact q2⟩
        have hno : Aside0 ((digv (bs.getD (2 * m) 0) < 0 ∨ digv (bs.getD (2 * m + 1) 0) < 0) → ¬ HexOk bs) := ⟨fun q hx => by
          have q1 := hx.2 (2 * m) (by rw [hbl.out]; exact hlt)
          have q2 := hx.2 (2 * m + 1) (by rw [hbl.out]; exact hlt1)
          omega⟩
        obtain ⟨a, ha⟩ : ∃ a, a = bs.getD (2 * m) 0 := ⟨_, rfl⟩
        obtain ⟨b, hb⟩ : ∃ b, b = bs.getD (2 * m + 1) 0 := ⟨_, rfl⟩
        rw [← ha] at h1 hb1 hp hall1 hno
        rw [← hb] at h2 hb2 hp hall1 hno
        clear ha hb
        have hda := digv_range a
        have hdb := digv_range b
        have hc1 := Aside0.mk (fun W => digit_any a W hb1.1 hb1.2)
        have hc2 := Aside0.mk (fun W => digit_any b W hb2.1 hb2.2)
        obtain ⟨x, hxa⟩ : ∃ x, x = digv a := ⟨_, rfl⟩
        obtain ⟨y, hyb⟩ : ∃ y, y = digv b := ⟨_, rfl⟩
        rw [← hxa] at hda hc1 hp hall1 hno
        rw [← hyb] at hdb hc2 hp hall1 hno
        clear hxa hyb hall
        go_wp2_with fail
        refine (hc1.out _).mono ?_
        rintro e w' ⟨rfl, rfl⟩
        go_wp2_with fail
        refine (hc2.out _).mono ?_
        rintro e w' ⟨rfl, rfl⟩
        by_cases hbad : x < 0
        · have hno' := Aside0.mk (hno.out (.inl hbad))
          clear hno
          go_wp2_with fail
          go_ret2
          exact ⟨.inr ⟨hno'.out, rfl⟩, hB.out⟩
        · by_cases hbad2 : y < 0
          · have hno' := Aside0.mk (hno.out (.inr hbad2))
            have hbx : 0 ≤ x := by omega
            have hbxd : decide (x < 0) = false := by simpa using hbx
            clear hno hbad
            go_wp2_with fail
            go_ret2
            exact ⟨.inr ⟨hno'.out, rfl⟩, hB.out⟩
          · have hbx : 0 ≤ x := by omega
            have hby : 0 ≤ y := by omega
            have hbxd : decide (x < 0) = false := by simpa using hbx
            have hbyd : decide (y < 0) = false := by simpa using hby
            have hall2 := Aside0.mk (hall1.out hbx hby)
            have hpl : (pairsN bs m).length ≤ 1000000 := by rw [pairsN_length]; omega
            have hO2 := Aside0.mk (hO.out.alloc (.cells (nums .u8 [16 * x + y]).toArray 5))
            have hR2 := Aside0.mk (reads_new wr .u8 5 [16 * x + y] (by simp))
            have hB2 := Aside0.mk (hB.out.alloc hB.out.size (.cells (nums .u8 [16 * x + y]).toArray 5))
            clear hno hbad hbad2 hall1
            go_wp2_with (at_builtin; refine wpList_append_nums w.heap.size rfl (.tmp 33) (.tmp 39) 22 5 .u8 1 rfl Try.underlying22 infoU8 (by omega) _ (pairsN bs m) [16 * x + y] _ _ _ rfl rfl hO2.out hR2.out hB2.out hB2.out.size (by show ((pairsN bs m).length + 1) * 1 ≤ _; omega) ?_)
            intro v3 w3 hO3 hB3 _ _
            have hO4 : Aside0 (w3.ownsRow w.heap.size 5 1 v3 (pairsN bs (m + 1)).length (nums .u8 (pairsN bs (m + 1)))) := ⟨by rw [hp.out, List.length_append]; exact hO3⟩
            clear hO3 hO2 hR2 hB2 hO hB
            go_wp2
            go_roundw
            case rel => exact ⟨m + 1, by omega, by go_num, hall2, hO4, ⟨hB3⟩⟩
            case measure => simp [intOf]; omega
      · have hlt' : 2 * m = s.size := by omega
        have hyes : Aside0 (HexOk bs) := ⟨⟨by rw [hbl.out]; exact hev'.out, fun j hj => hall.out j (by rw [hbl.out] at hj; omega)⟩⟩
        have hO' : Aside0 (wr.ownsRow w.heap.size 5 1 u4 (pairsN bs (bs.length / 2)).length (nums .u8 (pairsN bs (bs.length / 2)))) := ⟨by rw [hbl.out, show s.size / 2 = m by omega]; exact hO.out⟩
        clear hlt'
        go_wp2_with fail
        go_ret2
        exact ⟨.inl ⟨hyes.out, _, rfl, hO'.out⟩, hB.out⟩
end Go.Proofs.Yteapmebmgaggcaa
