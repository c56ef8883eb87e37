import Derived.Test.YteapmebmgaggcaaDoorPr
import Derived.Test.YteapmebmgaggcaaDoorVb
import Derived.Deep.Slices
namespace Go.Proofs.YteapmebmgaggcaaDoor.PRow
open Go.ChangeShapes Go.WideShapes Go.ChangeAt Go.RowKit
open Go.Proofs.YteapmebmgaggcaaDoor.PW Go.Proofs.YteapmebmgaggcaaDoorW.PrintWords Go.Deep
set_option linter.unusedVariables false

theorem cells23 : Tryd.prog.cellsOf 23 = 5 := by kernel_rfl
theorem cells30 : Tryd.prog.cellsOf 30 = 5 := by kernel_rfl
theorem cells28 : Tryd.prog.cellsOf 28 = 1 := by kernel_rfl
theorem list5 {α : Type} {cs : List α} (h : cs.length = 5) : ∃ c0 c1 c2 c3 c4, cs = [c0, c1, c2, c3, c4] := by
  match cs, h with
  | [c0, c1, c2, c3, c4], _ => exact ⟨c0, c1, c2, c3, c4, rfl⟩
section
variable {H : Type} {enc : TypeId × Value → H} {w : World} {base : Nat} {sp : Nat → Bool} {held : Bool}
/-- A setup that came in. -/
theorem setup_cells {fuel : Nat} {cs : List Value} {x : DataW H × List MemPlace} (h : DataW.trod enc Tryd.prog w base sp held fuel 23 cs = some x) :
    ∃ s : SU, cs = [.int .i64 s.ve, .int .i64 s.jo, .int .i64 s.au, .int .i64 s.pe, .int .i64 s.pa] := by
  obtain ⟨xs, n, _, _, hl, hlen, hf⟩ := DataW.trod_struct Tryd.underlying23 h
  obtain ⟨c0, c1, c2, c3, c4, rfl⟩ := list5 (hl.trans cells23)
  obtain ⟨y0, y1, y2, y3, y4, rfl⟩ := list5 hlen
  have h0 : DataW.trod enc Tryd.prog w base sp held n 3 (([c0, c1, c2, c3, c4].drop 0).take (Tryd.prog.cellsOf 3)) = some y0 := hf 0 _ rfl
  have h1 : DataW.trod enc Tryd.prog w base sp held n 3 (([c0, c1, c2, c3, c4].drop 1).take (Tryd.prog.cellsOf 3)) = some y1 := hf 1 _ rfl
  have h2 : DataW.trod enc Tryd.prog w base sp held n 3 (([c0, c1, c2, c3, c4].drop 2).take (Tryd.prog.cellsOf 3)) = some y2 := hf 2 _ rfl
  have h3 : DataW.trod enc Tryd.prog w base sp held n 3 (([c0, c1, c2, c3, c4].drop 3).take (Tryd.prog.cellsOf 3)) = some y3 := hf 3 _ rfl
  have h4 : DataW.trod enc Tryd.prog w base sp held n 3 (([c0, c1, c2, c3, c4].drop 4).take (Tryd.prog.cellsOf 3)) = some y4 := hf 4 _ rfl
  rw [cells3] at h0 h1 h2 h3 h4
  obtain ⟨a0, e0, _, _⟩ := DataW.trod_int Tryd.underlying3 h0
  obtain ⟨a1, e1, _, _⟩ := DataW.trod_int Tryd.underlying3 h1
  obtain ⟨a2, e2, _, _⟩ := DataW.trod_int Tryd.underlying3 h2
  obtain ⟨a3, e3, _, _⟩ := DataW.trod_int Tryd.underlying3 h3
  obtain ⟨a4, e4, _, _⟩ := DataW.trod_int Tryd.underlying3 h4
  simp at e0 e1 e2 e3 e4
  exact ⟨⟨a0, a1, a2, a3, a4⟩, by rw [e0, e1, e2, e3, e4]⟩
theorem op_cells {fuel : Nat} {cs : List Value} {x : DataW H × List MemPlace} (h : DataW.trod enc Tryd.prog w base sp held fuel 30 cs = some x) :
    ∃ o : S30, cs = [.int .i64 o.f0, .int .i64 o.f1, .int .i64 o.f2, .int .i64 o.f3, .int .u64 o.f4] ∧ 0 ≤ o.f4 ∧ o.f4 < 18446744073709551616 := by
  obtain ⟨xs, n, _, _, hl, hlen, hf⟩ := DataW.trod_struct Tryd.underlying30 h
  obtain ⟨c0, c1, c2, c3, c4, rfl⟩ := list5 (hl.trans cells30)
  obtain ⟨y0, y1, y2, y3, y4, rfl⟩ := list5 hlen
  have h0 : DataW.trod enc Tryd.prog w base sp held n 3 (([c0, c1, c2, c3, c4].drop 0).take (Tryd.prog.cellsOf 3)) = some y0 := hf 0 _ rfl
  have h1 : DataW.trod enc Tryd.prog w base sp held n 3 (([c0, c1, c2, c3, c4].drop 1).take (Tryd.prog.cellsOf 3)) = some y1 := hf 1 _ rfl
  have h2 : DataW.trod enc Tryd.prog w base sp held n 3 (([c0, c1, c2, c3, c4].drop 2).take (Tryd.prog.cellsOf 3)) = some y2 := hf 2 _ rfl
  have h3 : DataW.trod enc Tryd.prog w base sp held n 3 (([c0, c1, c2, c3, c4].drop 3).take (Tryd.prog.cellsOf 3)) = some y3 := hf 3 _ rfl
  have h4 : DataW.trod enc Tryd.prog w base sp held n 28 (([c0, c1, c2, c3, c4].drop 4).take (Tryd.prog.cellsOf 28)) = some y4 := hf 4 _ rfl
  rw [cells3] at h0 h1 h2 h3
  rw [cells28] at h4
  obtain ⟨a0, e0, _, _⟩ := DataW.trod_int Tryd.underlying3 h0
  obtain ⟨a1, e1, _, _⟩ := DataW.trod_int Tryd.underlying3 h1
  obtain ⟨a2, e2, _, _⟩ := DataW.trod_int Tryd.underlying3 h2
  obtain ⟨a3, e3, _, _⟩ := DataW.trod_int Tryd.underlying3 h3
  obtain ⟨a4, e4, _, hw⟩ := DataW.trod_int Tryd.underlying28 h4
  simp at e0 e1 e2 e3 e4
  simp [Lit.wf, IntKind.min, IntKind.max, IntKind.signed, IntKind.bits] at hw
  exact ⟨⟨a0, a1, a2, a3, a4⟩, by rw [e0, e1, e2, e3, e4], by show 0 ≤ a4; omega, by show a4 < 18446744073709551616; omega⟩
theorem open_setup {r : Reach} {b0 : Nat} {v : Value} {d : DataW H} {p : List MemPlace} (hv : Value.okWide Tryd.prog w r b0 23 v) (h : DataW.Trod enc Tryd.prog w base sp held 23 v d p) : ∃ s : SU, v = s.val := by
  obtain ⟨cs, rfl, hsz⟩ := okWide_struct Tryd.underlying23 hv
  obtain ⟨fuel, hf⟩ := h
  obtain ⟨s, hs⟩ := setup_cells hf
  refine ⟨s, ?_⟩
  have : cs.toList = [.int .i64 s.ve, .int .i64 s.jo, .int .i64 s.au, .int .i64 s.pe, .int .i64 s.pa] := by simpa [Value.cells] using hs
  obtain ⟨l⟩ := cs
  have h2 : l = [.int .i64 s.ve, .int .i64 s.jo, .int .i64 s.au, .int .i64 s.pe, .int .i64 s.pa] := this
  rw [h2]
  rfl
/-- Operations that came in. -/
theorem open_ops {r : Reach} {b0 : Nat} {v : Value} {d : DataW H} {p : List MemPlace} (hv : Value.okWide Tryd.prog w r b0 24 v) (h : DataW.Trod enc Tryd.prog w base sp held 24 v d p) :
    ∃ (A : Option Addr) (l : List S30) (c : Nat), v = .slice A l.length c ∧ l.length ≤ c ∧ c ≤ maxLen ∧ Kd.C k30 w A l.length l ∧ (∀ o ∈ l, 0 ≤ o.f4 ∧ o.f4 < 18446744073709551616) := by
  obtain ⟨a0, len0, cap0, rfl⟩ := okWide_slice Tryd.underlying24 hv
  obtain ⟨fuel, hf⟩ := h
  rcases open_slice Tryd.underlying24 hf with ⟨hcs, _⟩ | ⟨a, len, cap, m, n, D, Pl, hcs, _, hl, hm, hmm, _, hx⟩
  · simp [Value.cells] at hcs
    obtain ⟨rfl, rfl, rfl⟩ := hcs
    exact ⟨none, [], 0, rfl, Nat.le_refl _, Nat.zero_le _, ⟨rfl, by decide, fun h0 => absurd h0 (by decide)⟩, fun o ho => by cases ho⟩
  · simp [Value.cells] at hcs
    obtain ⟨rfl, rfl, rfl⟩ := hcs
    have hlm : len0 ≤ m := by rw [hmm]; split <;> omega
    haveI : Inhabited S30 := ⟨z30⟩
    obtain ⟨F, hF⟩ := choose_lt (α := S30) (n := len0) (p := fun i o => (∀ j u, [Value.int .i64 o.f0, .int .i64 o.f1, .int .i64 o.f2, .int .i64 o.f3, .int .u64 o.f4][j]? = some u → w.cell? (a.add (i * 5 + j)) = some u) ∧ 0 ≤ o.f4 ∧ o.f4 < 18446744073709551616) (fun i hi => by
      obtain ⟨cs', h1, h2⟩ := hx i (by omega)
      obtain ⟨o, rfl, hw⟩ := op_cells h2
      obtain ⟨_, _, hc⟩ := World.cells?_some h1
      refine ⟨o, fun j u hj => ?_, hw⟩
      have hj5 : j < 5 := by
        have := (List.getElem?_eq_some_iff.1 hj).1
        simpa using this
      have := hc j (by rw [cells30]; exact hj5)
      rw [cells30, Go.Deep.add_add] at this
      rw [this, hj])
    refine ⟨some a, (List.range len0).map F, cap0, by simp, by simpa using hl, hm, ⟨rfl, by simp; exact Nat.le_trans hl (Nat.le_trans hm (by decide)), fun _ => ⟨a, rfl, fun j p hj => ?_⟩⟩, fun o ho => ?_⟩
    · obtain ⟨hjl, hp⟩ := List.getElem?_eq_some_iff.1 hj
      have hjl' : j < len0 := by simpa using hjl
      have hp' : F j = p := by simpa using hp
      subst hp'
      exact ⟨_, rfl, k30_mk w (F j), fun i u hu => (hF j hjl').1 i u hu⟩
    · obtain ⟨i, hi, rfl⟩ := List.mem_map.1 ho
      exact (hF i (List.mem_range.1 hi)).2
/-- Bytes that came in. -/
theorem open_bytes {r : Reach} {b0 : Nat} {v : Value} {d : DataW H} {p : List MemPlace} (hv : Value.okWide Tryd.prog w r b0 31 v) (h : DataW.Trod enc Tryd.prog w base (fun _ => true) held 31 v d p) :
    ∃ (A : Option Addr) (l : List Int) (c : Nat), v = .slice A l.length c ∧ l.length ≤ c ∧ l.length ≤ maxLen ∧ ReadsInt w .u8 A l.length l ∧ Byt l := by
  obtain ⟨a0, len0, cap0, rfl⟩ := okWide_slice Tryd.underlying31 hv
  obtain ⟨z0, w0⟩ : ∃ zs : List Int, (a0 = none ∧ len0 = 0 ∧ cap0 = 0 ∧ zs = []) ∨ ∃ x, a0 = some x ∧ len0 ≤ cap0 ∧ cap0 ≤ maxLen ∧ zs.length = cap0 ∧ (∀ i, i < zs.length → w.cell? (x.add i) = some (.int .u8 (zs.getD i 0))) ∧ ∀ n ∈ zs, (Lit.int .u8 n).wf = true := by
    obtain ⟨fuel, hf⟩ := h
    rcases open_ints Tryd.underlying31 Tryd.underlying5 (by kernel_rfl) hf with ⟨hcs, _⟩ | ⟨x, l, c, zs, hcs, _, hl, hm, hz, _, hcell, hwz⟩
    · simp [Value.cells] at hcs
      obtain ⟨rfl, rfl, rfl⟩ := hcs
      exact ⟨[], .inl ⟨rfl, rfl, rfl, rfl⟩⟩
    · simp [Value.cells] at hcs
      obtain ⟨rfl, rfl, rfl⟩ := hcs
      exact ⟨zs, .inr ⟨_, rfl, hl, hm, by simpa using hz, hcell, hwz⟩⟩
  obtain ⟨l, rfl, hr, hm0, hwf, hc0⟩ := ReadsInt.ofRowC w0
  exact ⟨a0, l, cap0, rfl, hc0, hm0, hr, fun x hx => by
    have := hwf x hx
    simp [Lit.wf, IntKind.min, IntKind.max, IntKind.signed, IntKind.bits] at this
    omega⟩
end
end Go.Proofs.YteapmebmgaggcaaDoor.PRow
