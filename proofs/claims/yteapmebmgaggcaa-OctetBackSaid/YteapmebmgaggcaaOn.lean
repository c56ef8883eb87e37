import Derived.Test.YteapmebmgaggcaaOm
namespace Go.Proofs.Yteapmebmgaggcaa
open Go.RowKit Go.Proofs.YteapmebmgaggcaaW.PrintWords
set_option linter.unusedVariables false
set_option linter.unusedSimpArgs false

/-- 'append(v, xs...)', v empty, with room: the row is written in its place. -/
theorem run_append_room {P : Program} (W : World) (t ty e : TypeId) (k : IntKind) (ht : P.underlying t = some (.slice e)) (hsz : (P.info? e).map (·.size) = some 1)
    (g cap : Nat) (xs : List Int) (A : Option Addr) (m c : Nat) (hg : W.heap[g]? = some (.cells (nums k (List.replicate cap 0)).toArray e (0, 0))) (hm : m ≤ cap) (HR : ReadsInt W k A m xs) :
    ∃ W', (Builtin.append_ #[t, t] ty #[.slice (some ⟨g, 0, none⟩) 0 cap, .slice A m c]).run P W = .ok (.slice (some ⟨g, 0, none⟩) m cap) W' ∧ W'.heap[g]? = some (.cells (nums k (xs ++ List.replicate (cap - m) 0)).toArray e (0, 0)) ∧ Below g W W' := by
  obtain ⟨i0, hi, hs0⟩ := Option.map_eq_some_iff.1 hsz
  have hl : xs.length = m := HR.1
  cases A with
  | none =>
    have h0 : m = 0 := by
      rcases Nat.eq_zero_or_pos m with h0 | h0
      · exact h0
      · obtain ⟨ad, h, _⟩ := HR.2.2 h0
        cases h
    subst h0
    obtain rfl : xs = [] := List.eq_nil_of_length_eq_zero hl
    refine ⟨W, ?_, by simpa using hg, Below.refl _ _⟩
    simp [Builtin.append_, run_underlying ht, sizeOf, typeInfo, hi, Builtin.lenOf, Builtin.firstCells, storeCells]
  | some ad =>
    have hcells : ∀ j u, (nums k xs)[j]? = some u → W.cell? (ad.add j) = some u := by
      intro j u hu
      rcases Nat.lt_or_ge j xs.length with hj | hj
      · obtain ⟨ad', h', hc⟩ := HR.2.2 (by omega)
        injection h' with h'
        subst h'
        rw [hc j (by omega)]
        simp [nums, List.getElem?_eq_getElem hj] at hu
        simp [List.getD_eq_getElem?_getD, List.getElem?_eq_getElem hj, hu]
      · simp [nums, List.getElem?_eq_none hj] at hu
    have h1 : ∀ u ∈ nums k xs, u.oneCell' = true := by intro u hu; simp only [nums, List.mem_map] at hu; obtain ⟨q, _, rfl⟩ := hu; rfl
    have hfc := run_firstCells_some (P := P) W i0.size m ad m c (nums k xs) (by rw [hs0]; simp [nums, hl]) hcells
    have hst := run_storeCells_at (P := P) g 0 e (nums k xs) 0 (nums k (List.replicate cap 0)).toArray W hg (by simp [nums]; omega) h1
    refine ⟨W.setRow g (nums k (xs ++ List.replicate (cap - m) 0)).toArray, ?_, setRow_heap W g _ _ e _ hg, below_setRow (Below.refl _ _) (Nat.le_refl _) _⟩
    have e1 : ((nums k (List.replicate cap 0)).toArray.toList.take (0 + 0) ++ nums k xs ++ (nums k (List.replicate cap 0)).toArray.toList.drop (0 + 0 + (nums k xs).length)).toArray = (nums k (xs ++ List.replicate (cap - m) 0)).toArray := by
      simp [nums, hl, List.map_append]
    rw [e1] at hst
    simp [Builtin.append_, run_underlying ht, sizeOf, typeInfo, hi, Builtin.lenOf, hm, hfc, hst, add_plain]
theorem row_reads {W : World} {g m : Nat} {e : TypeId} {xs ys : List Int} (hg : W.heap[g]? = some (.cells (nums .u8 (xs ++ ys)).toArray e (0, 0))) (hm : xs.length = m) (h9 : m ≤ 9223372036854775807) : ReadsInt W .u8 (some ⟨g, 0, none⟩) m xs := by
  refine ⟨hm, h9, fun _ => ⟨_, rfl, fun j hj => ?_⟩⟩
  rw [add_plain, cell_of_row W g j _ e (0, 0) hg]
  have hj' : j < xs.length := by omega
  simp [nums, List.map_append, hj']
  rw [List.getElem?_append_left (by simpa using hj')]
  simp [hj']
theorem row_spare {W : World} {g m : Nat} {e : TypeId} {xs : List Int} {n : Nat} (hg : W.heap[g]? = some (.cells (nums .u8 (xs ++ List.replicate n 0)).toArray e (0, 0))) (hm : xs.length = m) (j : Nat) (hj : j < n) : W.cell? ⟨g, m + j, none⟩ = some (.int .u8 0) := by
  rw [cell_of_row W g (m + j) _ e (0, 0) hg]
  simp [nums, List.getElem?_append_right (show xs.length ≤ m + j by omega), hm, hj]

theorem row_in64 {w : World} {a : Option Addr} {len cap : Nat} {zs : List Int}
    (h : (a = none ∧ len = 0 ∧ cap = 0 ∧ zs = []) ∨ ∃ x, a = some x ∧ len ≤ cap ∧ cap ≤ maxLen ∧ zs.length = cap ∧ (∀ i, i < zs.length → w.cell? (x.add i) = some (.int .u64 (zs.getD i 0))) ∧ ∀ n ∈ zs, (Lit.int .u64 n).wf = true) :
    ReadsInt w .u64 a len (zs.take len) ∧ (∀ x ∈ zs.take len, 0 ≤ x ∧ x < 18446744073709551616) := by
  rcases h with ⟨rfl, rfl, rfl, rfl⟩ | ⟨x, rfl, hl, hm, hz, hc, hw⟩
  · exact ⟨⟨rfl, by omega, fun h => absurd h (by omega)⟩, fun x hx => by cases hx⟩
  · refine ⟨⟨by rw [List.length_take]; omega, by unfold maxLen at hm; omega, fun h => ⟨x, rfl, fun j hj => ?_⟩⟩, fun n hn => u64_in (hw n (List.mem_of_mem_take hn))⟩
    rw [hc j (by omega)]; simp [List.getD_eq_getElem?_getD, List.getElem?_take, hj]
theorem wpList_append_by {P : Program} {W w1 : World} {ops : Array Oper} {rest : List Oper} {o : Oper} {a : Act} {Q : Exit → Act → World → Prop} {v x v1 : Value} (hgd : o.guard = none) (s y : Operand) (t : TypeId)
    (ho : o.op = .call { callee := .builtin .append, args := #[s, y], argTypes := #[t, t] }) (hs : a.eval s = v) (hx : a.eval y = x)
    (hr : (Builtin.append_ #[t, t] o.type #[v, x]).run P W = .ok v1 w1) (h : wpList P ops Q rest (a.put o.dst v1) w1) : wpList P ops Q (o :: rest) a W :=
  wpList_plain hgd fun _ hK => by
    unfold Oper.wp execOp
    simp only [ho, resolve, invoke, builtin, Sem.run_bind, Sem.run_pure, Result.andThen_ok, List.map_toArray, List.map_cons, List.map_nil, hs, hx, hr]
    exact hK _ _ h

/-- 'OctetOwn' answers true. -/
theorem octetOwn_law (A : Option Addr) (l c : Nat) (xs : List Int) (n v : Int) (w : World) (hb : ReadsInt w .u8 A l xs) (hn0 : 0 ≤ n) (hn1 : n < 256) (hv0 : 0 ≤ v) (hv1 : v < 18446744073709551616) :
    Calls Try.prog 7 #[.slice A l c, .int .u8 n, .int .u64 v] w fun e w' => e = .returned (.bool true) ∧ Below w.heap.size w w' := by
  have hxl : Hid (xs.length = l) := Lib.hid hb.1
  have hl9 := hb.2.1
  go_enter Try.func7, Try.ntmps7
  go_wp2_with fail
  refine (awake_any _).mono ?_
  rintro e w1 ⟨rfl, hb1⟩
  by_cases hbig : 300 < l
  · go_wp2_with fail
    go_ret
    exact ⟨rfl, hb1⟩
  · have hmk := makeU8 0 (l + 16) (by omega)
    have ez : (((0 : Nat) : Int) + ((l + 16 : Nat) : Int)) = (l : Int) + 16 := by omega
    have ez0 : ((0 : Nat) : Int) = 0 := rfl
    rw [ez, ez0, Nat.zero_add] at hmk
    clear ez ez0
    have hX1 := (hb.below hb1).below ((Below.refl _ _).alloc (Nat.le_refl _) (.cells (nums .u8 (List.replicate (l + 16) 0)).toArray 5))
    obtain ⟨w2, hap, hG2, hB2⟩ := run_append_room (P := Try.prog) (w1.alloc (.cells (nums .u8 (List.replicate (l + 16) 0)).toArray 5)) 22 22 5 .u8 Try.underlying22 sizeU8 w1.heap.size (l + 16) xs A l c (heap_alloc_new _ _) (by omega) hX1
    have hG2 : w2.heap[w1.heap.size]? = some (.cells (nums .u8 (xs ++ List.replicate 16 0)).toArray 5 (0, 0)) := by rw [hG2, show l + 16 - l = 16 by omega]
    have hs2 : w1.heap.size < w2.heap.size := (Array.getElem?_eq_some_iff.1 hG2).1
    replace hB2 := Aside0.mk (hb1.trans ((((Below.refl _ _).alloc (Nat.le_refl _) _).trans hB2).mono hb1.size))
    have hX2 := Aside0.mk (hb.below hB2.out)
    have hR2 := Aside0.mk (row_reads hG2 hxl.out hl9)
    replace hG2 := Aside0.mk hG2
    clear hX1 hb1
    have hap' := Aside0.mk hap
    have hcl8 : clamp8 (n % 9) = (n % 9).toNat := clamp8_in _ (by omega) (by omega)
    obtain ⟨N, hmod⟩ : ∃ N : Nat, n % 9 = (N : Int) := ⟨(n % 9).toNat, by omega⟩
    have hN8 : N ≤ 8 := by omega
    have hcat : Hid ((xs ++ low (clamp8 (N : Int)) v).length = l + N) := Lib.hid (by rw [List.length_append, hxl.out, low_length, ← hmod, hcl8]; omega)
    clear hap hcl8
    go_wp2_with (at_builtin; refine wpList_append_by rfl (.tmp 20) (.tmp 21) 22 rfl rfl rfl hap'.out ?_)
    go_wp2_with fail
    refine (put_any _ l (l + 16) xs (N : Int) v _ hR2.out (by omega) hv0 hv1).mono ?_
    rintro e w3 ⟨u3, rfl, hO3, hB3⟩
    obtain ⟨ys, hys⟩ : ∃ ys, ys = xs ++ low (clamp8 (N : Int)) v := ⟨_, rfl⟩
    rw [← hys] at hO3 hcat
    rw [hcat.out] at hO3
    clear hys hcat hap' hmk
    obtain ⟨A3, c3, rfl⟩ := own_slice hO3
    replace hO3 := Aside0.mk hO3
    replace hB3 := Aside0.mk hB3
    go_wp2_with fail
    clear hmod
    go_loopw [9] (fun i wr => ∃ k : Nat, k ≤ l + N ∧ i = .int .i64 k ∧ Aside0 (∃ zs : List Int, wr.ownsRow w2.heap.size 5 1 (.slice A3 (l + N) c3) (l + N) (nums .u8 zs)) ∧ Aside0 (Below w2.heap.size w2 wr)) (fun i _ => (l + N) - (intOf i).toNat)
    case atStart => exact ⟨0, Nat.zero_le _, rfl, ⟨ys, hO3.out⟩, hB3⟩
    case round =>
      obtain ⟨k, hk, rfl, hO, hB⟩ := hrel
      by_cases hlt : k < l + N
      · obtain ⟨zs, hz⟩ := hO.out
        obtain ⟨g, cap, he, hgb, hgl⟩ := hz.form (by omega)
        injection he with he1 he2 he3
        subst he1
        obtain ⟨hc, hf⟩ := own_at hz (k : Int) (by omega) (by omega)
        rw [Int.toNat_natCast] at hc hf
        have hnew := fun x => own_store hz (k : Int) x
        rw [Int.toNat_natCast] at hnew
        replace hnew := Aside0.mk hnew
        have hBn := fun x => Aside0.mk (hB.out.setCell (p := ⟨g, k, none⟩) hgb x)
        obtain ⟨r, hr⟩ : ∃ r, r = rd zs (k : Int) := ⟨_, rfl⟩
        rw [← hr] at hc
        clear hr hz he2 he3 hO hgl
        go_wp2_with fail
        go_roundw
        case rel => exact ⟨k + 1, by omega, by go_num, ⟨_, (hnew.out _).1⟩, hBn _⟩
        case measure => simp [intOf]; omega
      · have hgl := hB.out.size
        have hG3 : wr.heap[w1.heap.size]? = some (.cells (nums .u8 (xs ++ List.replicate 16 0)).toArray 5 (0, 0)) := (hB.out.block _ hs2).trans hG2.out
        have hq1 := reads_string (c := l + 16) (row_reads hG3 hxl.out hl9)
        have hq2 := reads_string (c := c) (hX2.out.below hB.out)
        have hB9 := Aside0.mk (hB2.out.trans (hB.out.mono hB2.out.size))
        replace hG3 := Aside0.mk hG3
        clear hO hB hO3 hB3 hX2 hR2 hG2 hB2
        go_wp2_with fail
        go_loop [11] (fun i => ∃ j : Nat, j ≤ 8 ∧ i = .int .i64 ((l : Int) + (j : Int))) (fun i => (l + 8) - (intOf i).toNat)
        case atStart => exact ⟨0, by omega, by simp⟩
        case round =>
          obtain ⟨j, hj, rfl⟩ := hrel
          by_cases hlt2 : j < 8
          · have hcj := row_spare hG3.out hxl.out j (by omega)
            go_wp2_with fail
            go_round
            case rel => exact ⟨j + 1, by omega, by go_num⟩
            case measure => simp [intOf]; omega
          · obtain rfl : j = 8 := by omega
            go_wp2_with fail
            go_ret
            exact ⟨rfl, hB9.out⟩
end Go.Proofs.Yteapmebmgaggcaa
