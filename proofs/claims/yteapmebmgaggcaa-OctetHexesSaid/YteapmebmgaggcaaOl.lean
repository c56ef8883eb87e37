import Derived.Test.YteapmebmgaggcaaOk
namespace Go.Proofs.Yteapmebmgaggcaa
open Go.RowKit Go.Proofs.YteapmebmgaggcaaW.PrintWords
set_option linter.unusedVariables false
set_option linter.unusedSimpArgs false

theorem hexl_get (xs : List Int) : ∀ i, i < xs.length → (hexl xs).getD (2 * i) 0 = hexd (xs.getD i 0 / 16) ∧ (hexl xs).getD (2 * i + 1) 0 = hexd (xs.getD i 0 % 16) := by
  induction xs with
  | nil => intro i h; simp at h
  | cons x xs ih =>
    intro i h
    have e : hexl (x :: xs) = hexd (x / 16) :: hexd (x % 16) :: hexl xs := rfl
    rw [e]
    cases i with
    | zero => exact ⟨rfl, rfl⟩
    | succ i =>
      have h1 : 2 * (i + 1) = 2 * i + 1 + 1 := by omega
      rw [h1]
      simp only [List.getD_cons_succ]
      exact ih i (by simpa using h)
theorem hexl_byt {xs : List Int} (h : Byt xs) : Byt (hexl xs) := by
  intro y hy
  simp only [hexl, List.mem_flatMap] at hy
  obtain ⟨x, hx, hy⟩ := hy
  have := h x hx
  simp only [List.mem_cons, List.not_mem_nil, or_false] at hy
  rcases hy with rfl | rfl
  · have := hexd_range (x / 16) (by omega) (by omega); omega
  · have := hexd_range (x % 16) (by omega) (by omega); omega
theorem bytes_of_nums {xs : List Int} (h : Byt xs) : bytesOf (strOfNums xs) = xs := by
  unfold bytesOf
  rw [strOfNums_data, List.map_map]
  conv => rhs; rw [← List.map_id xs]
  refine List.map_congr_left fun x hx => ?_
  have := h x hx
  have e : x.toNat % 256 = x.toNat := Nat.mod_eq_of_lt (by omega)
  simp [UInt8.toNat_ofNat, e]
  omega
theorem hexOk_hexl {xs : List Int} (h : Byt xs) : HexOk (hexl xs) := by
  refine ⟨by rw [hexl_length]; omega, fun j hj => ?_⟩
  rw [hexl_length] at hj
  have hb := h.getD (j / 2)
  have hg := hexl_get xs (j / 2) (by omega)
  rcases Nat.mod_two_eq_zero_or_one j with h2 | h2
  · rw [show j = 2 * (j / 2) by omega, hg.1, digv_hexd _ (by omega) (by omega)]; omega
  · rw [show j = 2 * (j / 2) + 1 by omega, hg.2, digv_hexd _ (by omega) (by omega)]; omega
theorem pairs_hexl {xs : List Int} (h : Byt xs) : pairsN (hexl xs) ((hexl xs).length / 2) = xs := by
  rw [hexl_length, show 2 * xs.length / 2 = xs.length by omega]
  apply List.ext_getElem
  · simp [pairsN]
  · intro i h1 h2
    have hg := hexl_get xs i h2
    have hb := h.getD i
    have e : xs.getD i 0 = xs[i] := by simp [List.getD_eq_getElem?_getD, h2]
    simp only [pairsN, List.getElem_map, List.getElem_range, hg.1, hg.2]
    rw [digv_hexd _ (by omega) (by omega), digv_hexd _ (by omega) (by omega), ← e]
    omega
theorem unhex_yes {bs : List Int} {B : Nat} {yes no : Value} {e : Ending} {w : World} (h : UnhexIs bs B yes no e w) (hx : HexOk bs) :
    ∃ A c, e = .returned (.tuple #[.slice A (pairsN bs (bs.length / 2)).length c, yes]) ∧ ReadsInt w .u8 A (pairsN bs (bs.length / 2)).length (pairsN bs (bs.length / 2)) := by
  rcases h with ⟨_, u, rfl, ho⟩ | ⟨hn, _⟩
  · obtain ⟨A, c, rfl, hr⟩ := own_reads ho
    exact ⟨A, c, rfl, hr⟩
  · exact absurd hx hn
theorem unhex_no {bs : List Int} {B : Nat} {yes no : Value} {e : Ending} {w : World} (h : UnhexIs bs B yes no e w) (hx : ¬ HexOk bs) : e = .returned (.tuple #[.slice none 0 0, no]) := by
  rcases h with ⟨hy, _⟩ | ⟨_, h⟩
  · exact absurd hy hx
  · exact h
/-- What digits come back to. -/
theorem unhex_hex (xs : List Int) (hx : Byt xs) (hl : xs.length ≤ 300) (w : World) :
    Calls Try.prog 13 #[.string (strOfNums (hexl xs))] w fun e w' => ∃ A c, e = .returned (.tuple #[.slice A xs.length c, .int .i64 0]) ∧ ReadsInt w' .u8 A xs.length xs ∧ Below w.heap.size w w' :=
  (unhex_any (strOfNums (hexl xs)) w (by rw [strOfNums_size, hexl_length]; omega)).mono fun e w' ⟨hu, hb⟩ => by
    rw [bytes_of_nums (hexl_byt hx)] at hu
    obtain ⟨A, c, h1, h2⟩ := unhex_yes hu (hexOk_hexl hx)
    rw [pairs_hexl hx] at h1 h2
    exact ⟨A, c, h1, h2, hb⟩

/-- 'OctetHexes' answers true. -/
theorem octetHexes_law (A : Option Addr) (l c : Nat) (xs : List Int) (s : ByteArray) (w : World) (hb : ReadsInt w .u8 A l xs) (hx : Byt xs) (hs9 : s.size ≤ 9223372036854775807) :
    Calls Try.prog 5 #[.slice A l c, .string s] w fun e w' => e = .returned (.bool true) ∧ Below w.heap.size w w' := by
  have hxl : Hid (xs.length = l) := Lib.hid hb.1
  have hl9 := hb.2.1
  go_enter Try.func5, Try.ntmps5
  go_wp2_with fail
  refine (awake_any _).mono ?_
  rintro e w1 ⟨rfl, hb1⟩
  by_cases hbig : 300 < l
  · go_wp2_with fail
    go_ret
    exact ⟨rfl, hb1⟩
  · have hbd : decide (300 < (l : Int)) = false := by simp; omega
    by_cases hbs : 300 < s.size
    · go_wp2_with fail
      go_ret
      exact ⟨rfl, hb1⟩
    · have hsd : decide (300 < (s.size : Int)) = false := by simp; omega
      obtain ⟨bs, hbs'⟩ : ∃ bs, Hid (bytesOf s = bs) := ⟨_, Lib.hid rfl⟩
      have hU := Aside0.mk (fun W => unhex_any s W (by omega))
      have hV := Aside0.mk (fun W => refunhex_any s W (by omega))
      rw [hbs'.out] at hU hV
      obtain ⟨ps, hps⟩ : ∃ ps, Hid (pairsN bs (bs.length / 2) = ps) := ⟨_, Lib.hid rfl⟩
      by_cases hok : HexOk bs
      · go_wp2_with fail
        refine (hU.out _).mono ?_
        rintro e w2 ⟨hu, hb2⟩
        obtain ⟨A2, c2, rfl, hR2⟩ := unhex_yes hu hok
        rw [hps.out] at hR2 ⊢
        clear hu
        go_wp2_with fail
        refine (hV.out _).mono ?_
        rintro e w3 ⟨hu, hb3⟩
        obtain ⟨A3, c3, rfl, hR3⟩ := unhex_yes hu hok
        rw [hps.out] at hR3 ⊢
        clear hu
        have k2 := below_then hb1 hb1.size hb2
        have k3 := below_then k2 k2.size hb3
        have hX3 := hb.below k3
        go_wp2_with fail
        refine (hex_any A l c xs _ hX3 hx (by omega)).mono ?_
        rintro e w4 ⟨rfl, hb4⟩
        go_wp2_with fail
        refine (unhex_hex xs hx (by rw [hxl.out]; omega) _).mono ?_
        rintro e w5 ⟨A5, c5, rfl, hR5, hb5⟩
        have k4 := below_then k3 k3.size hb4
        have k5 := below_then k4 k4.size hb5
        have hX5 := hb.below k5
        go_wp2_with fail
        refine (hex_any A l c xs _ hX5 hx (by omega)).mono ?_
        rintro e w6 ⟨rfl, hb6⟩
        have hX6 := hX5.below hb6
        go_wp2_with fail
        refine (refhex_any A l c xs _ hX6 hx (by omega)).mono ?_
        rintro e w7 ⟨rfl, hb7⟩
        have m2 := hR2.below hb3
        have m3 := m2.below hb4
        have m4 := m3.below hb5
        have m5 := m4.below hb6
        have q1 := reads_string (c := c2) (m5.below hb7.below)
        have n3 := hR3.below hb4
        have n4 := n3.below hb5
        have n5 := n4.below hb6
        have q2 := reads_string (c := c3) (n5.below hb7.below)
        have p5 := hR5.below hb6
        have q3 := reads_string (c := c5) (p5.below hb7.below)
        have q4 := reads_string (c := c) (hX6.below hb7.below)
        have k6 := below_then k5 k5.size hb6
        have k7 := Aside0.mk (below_then k6 k6.size hb7.below)
        clear m2 m3 m4 m5 n3 n4 n5 p5 hX6 hX5 hX3 hR2 hR3 hR5 k2 k3 k4 k5 k6 hb2 hb3 hb4 hb5 hb6 hb7 hb1
        go_wp2_with fail
        go_ret
        exact ⟨rfl, k7.out⟩
      · go_wp2_with fail
        refine (hU.out _).mono ?_
        rintro e w2 ⟨hu, hb2⟩
        obtain rfl := unhex_no hu hok
        clear hu
        go_wp2_with fail
        refine (hV.out _).mono ?_
        rintro e w3 ⟨hu, hb3⟩
        obtain rfl := unhex_no hu hok
        clear hu
        have k2 := below_then hb1 hb1.size hb2
        have k3 := below_then k2 k2.size hb3
        have hX3 := hb.below k3
        go_wp2_with fail
        refine (hex_any A l c xs _ hX3 hx (by omega)).mono ?_
        rintro e w4 ⟨rfl, hb4⟩
        go_wp2_with fail
        refine (unhex_hex xs hx (by rw [hxl.out]; omega) _).mono ?_
        rintro e w5 ⟨A5, c5, rfl, hR5, hb5⟩
        have k4 := below_then k3 k3.size hb4
        have k5 := below_then k4 k4.size hb5
        have hX5 := hb.below k5
        go_wp2_with fail
        refine (hex_any A l c xs _ hX5 hx (by omega)).mono ?_
        rintro e w6 ⟨rfl, hb6⟩
        have hX6 := hX5.below hb6
        go_wp2_with fail
        refine (refhex_any A l c xs _ hX6 hx (by omega)).mono ?_
        rintro e w7 ⟨rfl, hb7⟩
        have p5 := hR5.below hb6
        have q3 := reads_string (c := c5) (p5.below hb7.below)
        have q4 := reads_string (c := c) (hX6.below hb7.below)
        have q5 := reads_string (A := none) (n := 0) (c := 0) (xs := []) (w := w7) ⟨rfl, by omega, fun h => absurd h (by omega)⟩
        have k6 := below_then k5 k5.size hb6
        have k7 := Aside0.mk (below_then k6 k6.size hb7.below)
        clear p5 hX6 hX5 hX3 hR5 k2 k3 k4 k5 k6 hb2 hb3 hb4 hb5 hb6 hb7 hb1
        go_wp2_with fail
        go_ret
        exact ⟨rfl, k7.out⟩
end Go.Proofs.Yteapmebmgaggcaa
