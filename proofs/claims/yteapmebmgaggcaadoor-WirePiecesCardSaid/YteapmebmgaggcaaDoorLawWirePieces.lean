/-
  Proved: the law ringroadlaw26.WirePieces answers true for every input, and leaves its arguments as they were. Conditions: the table wire.needs holds what the program's text lays (the card ties it).
-/
import Derived.Test.YteapmebmgaggcaaDoorPs
import Derived.Test.YteapmebmgaggcaaDoorPd
import Derived.Test.YteapmebmgaggcaaDoorVl
import Derived.ShutString
import Derived.ChangeOld
import Derived.Below
namespace Go.Proofs.YteapmebmgaggcaaDoor.wirePieces
open Go.ChangeShapes Go.WideShapes Go.ChangeAt Go.RowKit
open Go.Proofs.YteapmebmgaggcaaDoor.PW Go.Proofs.YteapmebmgaggcaaDoor.PRow Go.Proofs.YteapmebmgaggcaaDoorW.PrintWords Go.Proofs.YteapmebmgaggcaaDoorW.PrintLast Go.Proofs.YteapmebmgaggcaaDoorW.PrintMore
set_option linter.unusedVariables false

theorem loop_true (b : List Int) (x : List S30) (hall : ∀ i (h : i < x.length), nz x[i] = true → mayB (opOf x[i]) = true ∧ 12 * i + 12 ≤ b.length) (hx : x.length < 1000000) :
    ∀ (n k i : Nat), x.length = i + n → n < k → ringroadlaw26_WirePieces.l0 k b x (i : Int) = some true := by
  intro n
  induction n with
  | zero =>
    intro k i hl hk
    obtain ⟨k, rfl⟩ : ∃ j, k = j + 1 := ⟨k - 1, by omega⟩
    rw [ringroadlaw26_WirePieces.l0, if_neg (by omega)]
  | succ n ih =>
    intro k i hl hk
    obtain ⟨k, rfl⟩ : ∃ j, k = j + 1 := ⟨k - 1, by omega⟩
    have hi : i < x.length := by omega
    have e : wrap64 ((i : Int) + 1) = ((i + 1 : Nat) : Int) := by rw [wz (by omega) (by omega)]; omega
    have e12 : wrap64 (12 * (i : Int)) = 12 * (i : Int) := wz (by omega) (by omega)
    have e24 : wrap64 (12 * (i : Int) + 12) = 12 * (i : Int) + 12 := wz (by omega) (by omega)
    have hn := ih k (i + 1) (by omega) (by omega)
    rw [ringroadlaw26_WirePieces.l0, if_pos (by omega), if_pos (by omega), rdT x i hi, e12, e24, e, hn]
    by_cases hz : nz x[i] = true
    · obtain ⟨h1, h2⟩ := hall i hi hz
      unfold nz at hz
      rw [if_pos hz]
      have hm : wire_May.f x[i].f0 x[i].f1 x[i].f2 x[i].f3 x[i].f4 = some true := by unfold wire_May.f; rw [show (⟨x[i].f0, x[i].f1, x[i].f2, x[i].f3, x[i].f4⟩ : OP) = opOf x[i] from rfl, h1]
      rw [hm, Option.bind_some, if_pos (rfl : true = true), if_neg (by omega)]
    · unfold nz at hz
      rw [if_neg hz]
      split <;> rfl

/-- What the law's walk computes is true. -/
theorem value (s : SU) (b : List Int) (hb : Byt b) : ∃ k, ringroadlaw26_WirePieces.f k s.ve s.jo s.au s.pe s.pa b = some true := by
  refine ⟨b.length + 40, ?_⟩
  unfold ringroadlaw26_WirePieces.f
  rw [awake_val _ (by omega), Option.bind_some, if_pos (rfl : true = true)]
  by_cases h : b.length > 2000
  · rw [if_pos (show (b.length : Int) > 2000 by omega)]
  · rw [if_neg (show ¬ (b.length : Int) > 2000 by omega), encode_val s [] (fun o ho => by cases ho) _ (by simp), Option.bind_some]
    cases hs : okS s
    · have e : encSpec s [] = ([], 1) := by unfold encSpec; rw [if_neg (by rw [hs]; simp)]
      rw [e, if_neg (by decide)]
      unfold wire_Setup.f
      rw [show (⟨s.ve, s.jo, s.au, s.pe, s.pa⟩ : SU) = s from rfl, hs]
      rfl
    · have e : encSpec s [] = (headB s, 0) := by unfold encSpec; rw [if_pos ⟨hs, rfl⟩, if_neg (by simp)]; simp [opsB]
      have hl : (headB s).length = 8 := rfl
      rw [e, if_pos (by rfl), Option.bind_some, if_pos (by simp [hl]), Option.bind_some, if_pos (by simp [hl]; omega), List.nil_append, decode_val _ (byt_app (headB_byt s) hb) _ (by rw [List.length_append, hl]; omega), Option.bind_some, dec_head hs b (by omega)]
      rw [if_pos (by rfl), if_neg (by simp)]
      have hc := pieces_count (8 + b.length) b (by omega)
      have e1 : wrap64 ((b.length : Int) + 11) = (b.length : Int) + 11 := wz (by omega) (by omega)
      have e2 : Int.tdiv ((b.length : Int) + 11) 12 = (((b.length + 11) / 12 : Nat) : Int) := by
        rw [Int.tdiv_eq_ediv_of_nonneg (by omega)]; omega
      have e3 : wrap64 (((b.length + 11) / 12 : Nat) : Int) = (((b.length + 11) / 12 : Nat) : Int) := wz (by omega) (by omega)
      dsimp only
      rw [e1, e2, e3, hc]
      obtain ⟨k, hk⟩ : ∃ j, b.length + 40 = j + 1 := ⟨b.length + 39, rfl⟩
      rw [hk, ringroadlaw26_WirePieces.j0, if_neg (by simp)]
      refine loop_true b (pieces (8 + b.length) b) (fun i hi hz => ?_) (by omega) (pieces (8 + b.length) b).length k 0 (by omega) (by omega)
      rw [pieces_get] at hz ⊢
      obtain ⟨h1, h2⟩ := opAt_nz _ hz
      rw [List.length_take, List.length_drop] at h1
      exact ⟨h2, by omega⟩

theorem walk {w : World} (s : SU) (A : Option Addr) (l : List Int) (c : Nat) (hc : l.length ≤ c) (hr : ReadsInt w .u8 A l.length l) (hb : Byt l) (hN : NeedsOk w) :
    Calls Tryd.prog 6 #[s.val, .slice A l.length c] w fun e w' => e = .returned (.bool true) ∧ Below w.heap.size w w' := by
  obtain ⟨k, hk⟩ := value s l hb
  exact ringroadlaw26_WirePieces.calls k s.ve s.jo s.au s.pe s.pa A c l true rfl w (c8 hr) hc hN hk


theorem contract (H : Type) (enc : TypeId × Value → H) (W : World) (base : Nat) (args : Array Value) (ds gs : List (DataW H)) (before : List MemPlace)
    (hval : ∀ (j : Nat) t v, Tryd.f6.params[j]? = some t → args[j]? = some v → Value.okWide Tryd.prog W .any base t v)
    (hW : DataW.Whole enc Tryd.prog Tryd.f6.params.toList Rows.wirePiecesSpec.vars false W args.toList ds gs before) (hL : laidMetH Tryd.prog Rows.wirePiecesRow.laid W) :
    Calls Tryd.prog 6 args W fun e W' => ∃ v, e = .returned v ∧ Rows.wirePiecesSpec.post enc Tryd.prog Tryd.f6 false true false false W args v W' := by
  have hW' := hW
  obtain ⟨p, q, hA0, hV, rfl, hfz, hnd⟩ := hW
  have hA : DataW.TrodAll enc Tryd.prog W 0 (fun _ => true) true Tryd.f6.params.toList args.toList ds p := hA0
  rw [Tryd.params6] at hA hval
  obtain ⟨v0, vs0, d0, ds0, p0, q0, hargs, rfl, rfl, h0, r0⟩ := trodAll_cons hA
  obtain ⟨v1, vs1, d1, ds1, p1, q1, rfl, rfl, rfl, h1, r1⟩ := trodAll_cons r0
  obtain ⟨rfl, rfl, rfl⟩ := trodAll_nil r1
  obtain rfl : args = #[v0, v1] := by cases args; simp_all
  obtain ⟨rfl, rfl⟩ := trodVars_none hV
  have k0 := h0
  have lt0 : ∀ x ∈ p0, x.block < W.heap.size := by obtain ⟨m, hm⟩ := k0; exact DataW.trod_lt m _ _ _ hm
  have k1 := h1
  have lt1 : ∀ x ∈ p1, x.block < W.heap.size := by obtain ⟨m, hm⟩ := k1; exact DataW.trod_lt m _ _ _ hm
  obtain ⟨s0, rfl⟩ := open_setup (hval 0 23 v0 rfl rfl) h0
  obtain ⟨A1, l1, c1, rfl, hc1, hm1, hr1, hb1⟩ := open_bytes (hval 1 31 v1 rfl rfl) h1
  clear hA0
  refine (walk s0 A1 l1 c1 hc1 hr1 hb1 (needs_of hL)).mono fun e W' ⟨he, bel⟩ => ?_
  subst he
  exact ⟨_, rfl, _, _, _, [], _, [], hW', trodAll_mk1 (shut_bool Tryd.underlying4 _), (trodAll_cons_mk (Below.trod laidOut (by kernel_rfl) (of_decide_eq_true (by kernel_rfl)) k0 bel lt0) (trodAll_cons_mk (Below.trod laidOut (by kernel_rfl) (of_decide_eq_true (by kernel_rfl)) k1 bel lt1) trodAll_mk0)), rfl, bel.frame _, fun h => by cases h⟩

theorem laid_met (os : Os) : laidMet Tryd.prog Rows.wirePiecesRow.laid ((laidWorld os).forCall (fun _ _ => 0) ⟨#[], #[.agg #[.int .i64 0, .int .i64 0, .int .i64 0, .int .i64 0, .int .i64 0], .slice none 0 0], []⟩).memory :=
  laidMet_of_run' 8 (by kernel_rfl) (by kernel_rfl)
theorem reads (os : Os) {H : Type} (enc : TypeId × Value → H) : ∃ places, DataW.whole enc Tryd.prog ((laidWorld os).forCall (fun _ _ => 0) ⟨#[], #[.agg #[.int .i64 0, .int .i64 0, .int .i64 0, .int .i64 0, .int .i64 0], .slice none 0 0], []⟩).memory Tryd.f6.params.toList Rows.wirePiecesSpec.vars false (#[.agg #[.int .i64 0, .int .i64 0, .int .i64 0, .int .i64 0, .int .i64 0], .slice none 0 0] : Array Value).toList 8 = some ([.agg [.lit (.int .i64 0), .lit (.int .i64 0), .lit (.int .i64 0), .lit (.int .i64 0), .lit (.int .i64 0)], .nil], [], places) :=
  ⟨[], by kernel_rfl⟩

set_option maxRecDepth 100000 in
theorem lifted (os : Os) (started : os.Started) (H : Type) (enc : TypeId × Value → H) (F : Stop.Interp) :
    ReturnsInHanded {} Tryd.checked os 6 .any ((OpenSpec.ofChange Rows.wirePiecesSpec).preRow enc Tryd.prog Tryd.f6 Rows.wirePiecesRow.domain false Rows.wirePiecesRow.laid) (((OpenSpec.ofChange Rows.wirePiecesSpec).at F).post enc Tryd.prog Tryd.f6 false true false false) := by
  obtain ⟨places, hx⟩ := reads os enc
  refine returnsInHanded_of_row (C := Tryd.checked) (s := OpenSpec.ofChange Rows.wirePiecesSpec) own started (by kernel_rfl) Tryd.func6
    (witness_row_at (enc := enc) (C := Tryd.checked) false (laidWorld os) #[.agg #[.int .i64 0, .int .i64 0, .int .i64 0, .int .i64 0, .int .i64 0], .slice none 0 0] rfl (by kernel_rfl) (by kernel_rfl) (by kernel_rfl)
      (OpenSpec.preRow_of_cond 8 hx (by kernel_rfl) (fun k hk => by cases hk) (by kernel_rfl) (laid_met os))) ?_
  intro W base args ds gs before hval hW _ _ _ hL _ _
  exact contract H enc W base args ds gs before hval hW hL

theorem said : Rows.WirePiecesSaid :=
  OpenClaim.holds_of_cond 6 Tryd.f6 rfl rfl rfl rfl rfl rfl rfl ⟨rfl, rfl, rfl, rfl, rfl⟩ rfl rfl rfl rfl rfl (by kernel_rfl) Tryd.func6 (by kernel_rfl)
    (of_decide_eq_true (by kernel_rfl)) (by unfold Func.isWrapper; first | (rw [if_pos (by decide +kernel)]; kernel_rfl) | (rw [if_neg (by decide +kernel)]; exact ⟨rfl, rfl⟩))
    (fun os started H enc _ F => by rw [OpenClaim.pre_eq_preRow]; exact lifted os started H enc F)

theorem plain (f : FuncId) (fn : Func) (hf : Tryd.pinned.checked.prog.funcNamed "ringroad/ringroadlaw26.WirePieces" = some f) (hfn : Tryd.pinned.checked.prog.funcs[f]? = some fn) :
    true = Tryd.pinned.checked.prog.looks [] ∧ ∀ (j : Nat) t, fn.params[j]? = some t → Tryd.pinned.checked.prog.wantsStandIn t = false := by
  obtain rfl : f = 6 := Option.some.inj ((show Tryd.prog.funcNamed "ringroad/ringroadlaw26.WirePieces" = some 6 by kernel_rfl).symm.trans hf) |>.symm
  obtain rfl : fn = Tryd.f6 := (Option.some.inj (Tryd.func6.symm.trans hfn)).symm
  refine ⟨by kernel_rfl, fun j t ht => ?_⟩
  rw [Tryd.params6] at ht
  have hm : t = 23 ∨ t = 31 := by simpa using Array.mem_of_getElem? ht
  rcases hm with rfl | rfl
  · exact (show Tryd.prog.wantsStandIn 23 = false by kernel_rfl)
  · exact (show Tryd.prog.wantsStandIn 31 = false by kernel_rfl)

/-- The card. -/
theorem proved : Rows.WirePiecesCardSaid :=
  Claim7.holds_tied_plain_at .later [] _ _ _ _ said (fun _ h => by cases h) (by kernel_rfl) (fun _ h => by cases h) wirePieces_row_tie rfl ⟨rfl, rfl⟩ (by kernel_rfl) rfl plain (by kernel_rfl)
#print axioms proved
end Go.Proofs.YteapmebmgaggcaaDoor.wirePieces
