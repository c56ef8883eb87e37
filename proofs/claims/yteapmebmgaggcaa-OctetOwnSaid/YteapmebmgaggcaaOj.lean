import Derived.Test.YteapmebmgaggcaaOi
namespace Go.Proofs.Yteapmebmgaggcaa
open Go.RowKit Go.Proofs.YteapmebmgaggcaaW.PrintWords
set_option linter.unusedVariables false
set_option linter.unusedSimpArgs false

/-- A slice of bytes that came in, as it is read. -/
theorem row_in {w : World} {a : Option Addr} {len cap : Nat} {zs : List Int}
    (h : (a = none ∧ len = 0 ∧ cap = 0 ∧ zs = []) ∨ ∃ x, a = some x ∧ len ≤ cap ∧ cap ≤ maxLen ∧ zs.length = cap ∧ (∀ i, i < zs.length → w.cell? (x.add i) = some (.int .u8 (zs.getD i 0))) ∧ ∀ n ∈ zs, (Lit.int .u8 n).wf = true) :
    ReadsInt w .u8 a len (zs.take len) ∧ Byt (zs.take len) ∧ len ≤ cap := by
  rcases h with ⟨rfl, rfl, rfl, rfl⟩ | ⟨x, rfl, hl, hm, hz, hc, hw⟩
  · exact ⟨⟨rfl, by omega, fun h => absurd h (by omega)⟩, Byt.nil, by omega⟩
  · refine ⟨⟨by rw [List.length_take]; omega, by unfold maxLen at hm; omega, fun h => ⟨x, rfl, fun j hj => ?_⟩⟩, fun n hn => ?_, hl⟩
    · rw [hc j (by omega)]; simp [List.getD_eq_getElem?_getD, List.getElem?_take, hj]
    · have := hw n (List.mem_of_mem_take hn)
      simp [Lit.wf, IntKind.min, IntKind.max, IntKind.signed, IntKind.bits] at this
      omega
theorem u64_in {n : Int} (h : (Lit.int .u64 n).wf = true) : 0 ≤ n ∧ n < 18446744073709551616 := by
  simp [Lit.wf, IntKind.min, IntKind.max, IntKind.signed, IntKind.bits] at h
  omega
theorem u8_in {n : Int} (h : (Lit.int .u8 n).wf = true) : 0 ≤ n ∧ n < 256 := by
  simp [Lit.wf, IntKind.min, IntKind.max, IntKind.signed, IntKind.bits] at h
  omega
theorem reads_string {w : World} {A : Option Addr} {n c : Nat} {xs : List Int} (h : ReadsInt w .u8 A n xs) : (convert 22 9 (.slice A n c)).run Try.prog w = .ok (.string (strOfNums xs)) w :=
  string_of_reads (P := Try.prog) Try.underlying22 Try.underlying5 Try.underlying9 h

theorem Drawn0.reads {w : World} {k : IntKind} {A : Option Addr} {n : Nat} {xs : List Int} (h : ReadsInt w k A n xs) : ReadsInt w.drew k A n xs := h

theorem put_as (A : Option Addr) (l c : Nat) (xs ys : List Int) (a1 v : Int) (w : World) (hb : ReadsInt w .u8 A l xs) (hl : l ≤ 1000000) (hv0 : 0 ≤ v) (hv1 : v < 18446744073709551616) (hys : xs ++ low (clamp8 a1) v = ys) :
    Calls Try.prog 9 #[.slice A l c, .int .i64 a1, .int .u64 v] w fun e w' => ∃ u, e = .returned u ∧ w'.ownsRow w.heap.size 5 1 u ys.length (nums .u8 ys) ∧ Below w.heap.size w w' := by
  subst hys; exact put_any A l c xs a1 v w hb hl hv0 hv1
theorem refput_as (A : Option Addr) (l c : Nat) (xs ys : List Int) (a1 v : Int) (w : World) (hb : ReadsInt w .u8 A l xs) (hl : l ≤ 1000000) (hv0 : 0 ≤ v) (hv1 : v < 18446744073709551616) (hys : xs ++ low (clamp8 a1) v = ys) :
    Calls Try.prog 10 #[.slice A l c, .int .i64 a1, .int .u64 v] w fun e w' => ∃ u, e = .returned u ∧ w'.ownsRow w.heap.size 5 1 u ys.length (nums .u8 ys) ∧ Below w.heap.size w w' := by
  subst hys; exact refput_any A l c xs a1 v w hb hl hv0 hv1

set_option maxHeartbeats 4000000 in
/-- 'OctetPuts' answers true. -/
theorem octetPuts_law (A : Option Addr) (l c : Nat) (xs : List Int) (a1 v : Int) (w : World) (hb : ReadsInt w .u8 A l xs) (hv0 : 0 ≤ v) (hv1 : v < 18446744073709551616) :
    Calls Try.prog 3 #[.slice A l c, .int .i64 a1, .int .u64 v] w fun e w' => e = .returned (.bool true) ∧ Below w.heap.size w w' := by
  have hxl : Hid (xs.length = l) := Lib.hid hb.1
  have hl9 := hb.2.1
  obtain ⟨ys, hys⟩ : ∃ ys, Hid (xs ++ low (clamp8 a1) v = ys) := ⟨_, Lib.hid rfl⟩
  go_enter Try.func3, Try.ntmps3
  go_wp2_with fail
  refine (awake_any _).mono ?_
  rintro e w1 ⟨rfl, hb1⟩
  by_cases hbig : 500 < l
  · go_wp2_with fail
    go_ret
    exact ⟨rfl, hb1⟩
  · have hO1 := Aside0.mk (own_lit w1 w1.heap.size 5 .u8 [] (Nat.le_refl _) (by simp))
    have hX1 := Aside0.mk ((hb.below hb1).below ((Below.refl _ _).alloc (Nat.le_refl _) (.cells #[] 5)))
    have hB1 := Aside0.mk ((Below.refl w1.heap.size w1).alloc (Nat.le_refl _) (.cells #[] 5))
    go_wp2_with (at_builtin; refine wpList_append_nums w1.heap.size rfl (.tmp 14) (.tmp 15) 22 5 .u8 1 rfl Try.underlying22 infoU8 (by omega) _ [] xs A l c rfl rfl hO1.out hX1.out hB1.out hB1.out.size (by show (0 + l) * 1 ≤ _; omega) ?_)
    intro v1 w2 hO2 hB2 _ _
    obtain ⟨A2, c2, rfl, hR2⟩ := own_reads hO2
    have hB2' := Aside0.mk (hb1.trans (hB2.mono hb1.size))
    have hX2 := Aside0.mk (hb.below hB2'.out)
    have hR2 := Aside0.mk hR2
    clear hO1 hX1 hB1 hO2 hB2
    go_wp2_with fail
    refine (put_as A2 xs.length c2 xs ys a1 v _ hR2.out (by rw [hxl.out]; omega) hv0 hv1 hys.out).mono ?_
    rintro e w3 ⟨u3, rfl, hO3, hB3⟩
    have hR3 := Aside0.mk (hR2.out.below hB3)
    have hX3 := Aside0.mk (hX2.out.below hB3)
    have hB3' := Aside0.mk (hB2'.out.trans (hB3.mono hB2'.out.size))
    obtain ⟨A3, c3, rfl, hU3⟩ := own_reads hO3
    have hU3 := Aside0.mk hU3
    clear hO3 hB3 hB2' hX2 hR2
    go_wp2_with fail
    have q1 := reads_string (c := c3) (Drawn0.reads hU3.out)
    have q2 := reads_string (c := c2) (Drawn0.reads hR3.out)
    have q3 := reads_string (c := c) (Drawn0.reads hX3.out)
    go_region_with (go_at_call 10; refine (refput_as A l c xs ys a1 v _ (Drawn0.reads hX3.out) (by omega) hv0 hv1 hys.out).mono ?_; rintro e w4 ⟨u4, rfl, hO4, hB4⟩; have q4 := own_string (P := Try.prog) (src := 22) (dst := 9) Try.underlying22 Try.underlying5 Try.underlying9 hO4; have q5 := reads_string (c := c3) ((Drawn0.reads hU3.out).below hB4); have q6 := reads_string (c := c2) ((Drawn0.reads hR3.out).below hB4); have q7 := reads_string (c := c) ((Drawn0.reads hX3.out).below hB4); have hB5 := Aside0.mk (below_then hB3'.out.drew hB3'.out.size hB4); clear hO4 hB4)
    all_goals
      go_wp2
      go_ret
      exact ⟨rfl, hB5.out⟩
end Go.Proofs.Yteapmebmgaggcaa
