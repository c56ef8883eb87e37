/-
  Proved: the law ringroadlaw26.WireReplies answers true for every input, and leaves its argument as it was. Conditions: the table wire.needs holds what the program's text lays (the card ties it).
-/
import Derived.Test.YteapmebmgaggcaaDoorPw
import Derived.Test.YteapmebmgaggcaaDoorSd
import Derived.ShutString
import Derived.ChangeOld
import Derived.Below
namespace Go.Proofs.YteapmebmgaggcaaDoor.wireReplies
open Go.ChangeShapes Go.WideShapes Go.ChangeAt Go.RowKit
open Go.Proofs.YteapmebmgaggcaaDoor.PW Go.Proofs.YteapmebmgaggcaaDoor.PRow Go.Proofs.YteapmebmgaggcaaDoorW.PrintWords Go.Proofs.YteapmebmgaggcaaDoorW.PrintLast Go.Proofs.YteapmebmgaggcaaDoorW.PrintMore
set_option linter.unusedVariables false

theorem wr_end (l : List S49) (h50 : l.length ≤ 50) (hw : D63 l) (hs : Small l) (k : Nat) (hk : 60000 < k) (x3 : Int) : ringroadlaw26_WireReplies.l0 (k + 1) l x3 (l.all fitR) (l.length : Int) = some true := by
  rw [ringroadlaw26_WireReplies.l0, if_neg (by omega), er_val l hs h50 hw k (by omega), Option.bind_some]
  cases hf : l.all fitR
  · rw [if_neg (show ¬ (false = true) by decide), if_neg (show ¬ (false = true) by decide)]
    rfl
  · rw [if_pos (rfl : true = true), if_pos (rfl : true = true)]
    dsimp only
    rw [dr_back l hs h50 hw hf, Option.bind_some]
    dsimp only
    rw [if_pos rfl, rr_val l hs h50 hw hf k (by omega), Option.bind_some, if_pos rfl, if_pos rfl,
      replies_self l 500 (by omega) hs (by omega) k (by omega), Option.bind_some]
theorem wr_l0 (l : List S49) (h50 : l.length ≤ 50) (hw : D63 l) : ∀ (n k i : Nat) (x3 : Int), l.length = i + n → 2 * n + 60002 < k → 0 ≤ x3 → x3 ≤ 500 → Small (l.take i) →
    ringroadlaw26_WireReplies.l0 k l x3 ((l.take i).all fitR) (i : Int) = some true := by
  intro n
  induction n with
  | zero =>
    intro k i x3 hl hk h0 h1 hs
    obtain ⟨k, rfl⟩ : ∃ q, k = q + 1 := ⟨k - 1, by omega⟩
    obtain rfl : i = l.length := by omega
    rw [List.take_length] at hs ⊢
    exact wr_end l h50 hw hs k (by omega) x3
  | succ n ih =>
    intro k i x3 hl hk h0 h1 hs
    obtain ⟨k, rfl⟩ : ∃ q, k = q + 1 + 1 := ⟨k - 2, by omega⟩
    have hi : i < l.length := by omega
    have e : wrap64 ((i : Int) + 1) = ((i + 1 : Nat) : Int) := by rw [wz (by omega) (by omega)]; omega
    have ht : l.take (i + 1) = l.take i ++ [l[i]] := List.take_succ_eq_append_getElem hi
    have hall : (l.take (i + 1)).all fitR = ((l.take i).all fitR && fitR l[i]) := by rw [ht, List.all_append]; simp
    obtain ⟨b, hb⟩ : ∃ b, b = (l.take i).all fitR := ⟨_, rfl⟩
    have hi9 := ih k (i + 1)
    rw [hall] at hi9
    rw [← hb] at hi9 ⊢
    have hsm : l[i].f1.length ≤ 500 → l[i].f2.length ≤ 500 → Small (l.take (i + 1)) := by
      intro h1 h2 r hr
      rw [ht] at hr
      rcases List.mem_append.1 hr with hr | hr
      · exact hs r hr
      · obtain rfl : r = l[i] := by simpa using hr
        exact ⟨h1, h2⟩
    rw [ringroadlaw26_WireReplies.l0, if_pos (by omega), if_pos (by omega), rd49 l i hi]
    by_cases hf1 : (l[i].f1.length : Int) > 500
    · rw [if_pos hf1, ringroadlaw26_WireReplies.j1, if_pos (rfl : true = true)]
    · rw [if_neg hf1, ringroadlaw26_WireReplies.j1]
      by_cases hf2 : (l[i].f2.length : Int) > 500
      · rw [if_pos (decide_eq_true hf2)]
      · rw [if_neg (by rw [decide_eq_false hf2]; simp), if_pos (by omega), if_pos (by omega), rd49 l i hi]
        have e3 : wrap64 (wrap64 (x3 + (l[i].f1.length : Int)) + (l[i].f2.length : Int)) = x3 + (l[i].f1.length : Int) + (l[i].f2.length : Int) := by
          rw [wz (n := x3 + (l[i].f1.length : Int)) (by omega) (by omega), wz (by omega) (by omega)]
        rw [e3, e]
        by_cases h5 : x3 + (l[i].f1.length : Int) + (l[i].f2.length : Int) > 500
        · rw [if_pos h5]
        · rw [if_neg h5]
          have hstep := hi9 (x3 + (l[i].f1.length : Int) + (l[i].f2.length : Int)) (by omega) (by omega) (by omega) (by omega) (hsm (by omega) (by omega))
          cases b
          · rw [if_neg (show ¬ (false = true) by decide)]
            exact hstep
          · rw [if_pos (rfl : true = true), fits_val _ _ _ (by omega) (by omega) k (by omega), Option.bind_some]
            rw [Bool.true_and] at hstep
            exact hstep
/-- What the law's walk computes is true. -/
theorem value (l : List S49) (hw : D63 l) : ∃ k, ringroadlaw26_WireReplies.f k l = some true := by
  refine ⟨100000, ?_⟩
  unfold ringroadlaw26_WireReplies.f
  rw [awake_val _ (by omega), Option.bind_some, if_pos (rfl : true = true)]
  by_cases h : (l.length : Int) > 50
  · rw [if_pos h]
  · rw [if_neg h]
    have := wr_l0 l (by omega) hw l.length 100000 0 0 (by omega) (by omega) (by omega) (by omega) (fun r hr => by rw [List.take_zero] at hr; cases hr)
    rw [List.take_zero] at this
    exact this

theorem walk {w : World} (A : Option Addr) (l : List S49) (c : Nat) (hc : l.length ≤ c) (hr : Kd.C k49 w A l.length l) (hw : D63 l) (hN : NeedsOk w) :
    Calls Tryd.prog 8 #[.slice A l.length c] w fun e w' => e = .returned (.bool true) ∧ Below w.heap.size w w' := by
  obtain ⟨k, hk⟩ := value l hw
  exact ringroadlaw26_WireReplies.calls k A c l true rfl w hr hc hN hk


theorem contract (H : Type) (enc : TypeId × Value → H) (W : World) (base : Nat) (args : Array Value) (ds gs : List (DataW H)) (before : List MemPlace)
    (hval : ∀ (j : Nat) t v, Tryd.f8.params[j]? = some t → args[j]? = some v → Value.okWide Tryd.prog W .any base t v)
    (hW : DataW.Whole enc Tryd.prog Tryd.f8.params.toList Rows.wireRepliesSpec.vars false W args.toList ds gs before) (hL : laidMetH Tryd.prog Rows.wireRepliesRow.laid W) :
    Calls Tryd.prog 8 args W fun e W' => ∃ v, e = .returned v ∧ Rows.wireRepliesSpec.post enc Tryd.prog Tryd.f8 false true false false W args v W' := by
  have hW' := hW
  obtain ⟨p, q, hA0, hV, rfl, hfz, hnd⟩ := hW
  have hA : DataW.TrodAll enc Tryd.prog W 0 (fun _ => true) true Tryd.f8.params.toList args.toList ds p := hA0
  rw [Tryd.params8] at hA hval
  obtain ⟨v0, vs0, d0, ds0, p0, q0, hargs, rfl, rfl, h0, r0⟩ := trodAll_cons hA
  obtain ⟨rfl, rfl, rfl⟩ := trodAll_nil r0
  obtain rfl : args = #[v0] := by cases args; simp_all
  obtain ⟨rfl, rfl⟩ := trodVars_none hV
  have k0 := h0
  have lt0 : ∀ x ∈ p0, x.block < W.heap.size := by obtain ⟨m, hm⟩ := k0; exact DataW.trod_lt m _ _ _ hm
  obtain ⟨A0, l0, c0, rfl, hc0, hm0, hr0, hu0⟩ := open_replies (hval 0 43 v0 rfl rfl) h0
  clear hA0
  refine (walk A0 l0 c0 hc0 hr0 hu0 (needs_of hL)).mono fun e W' ⟨he, bel⟩ => ?_
  subst he
  exact ⟨_, rfl, _, _, _, [], _, [], hW', trodAll_mk1 (shut_bool Tryd.underlying4 _), (trodAll_cons_mk (Below.trod laidOut (by kernel_rfl) (of_decide_eq_true (by kernel_rfl)) k0 bel lt0) trodAll_mk0), rfl, bel.frame _, fun h => by cases h⟩

theorem laid_met (os : Os) : laidMet Tryd.prog Rows.wireRepliesRow.laid ((laidWorld os).forCall (fun _ _ => 0) ⟨#[], #[.slice none 0 0], []⟩).memory :=
  laidMet_of_run' 8 (by kernel_rfl) (by kernel_rfl)
theorem reads (os : Os) {H : Type} (enc : TypeId × Value → H) : ∃ places, DataW.whole enc Tryd.prog ((laidWorld os).forCall (fun _ _ => 0) ⟨#[], #[.slice none 0 0], []⟩).memory Tryd.f8.params.toList Rows.wireRepliesSpec.vars false (#[.slice none 0 0] : Array Value).toList 8 = some ([.nil], [], places) :=
  ⟨[], by kernel_rfl⟩

set_option maxRecDepth 100000 in
theorem lifted (os : Os) (started : os.Started) (H : Type) (enc : TypeId × Value → H) (F : Stop.Interp) :
    ReturnsInHanded {} Tryd.checked os 8 .any ((OpenSpec.ofChange Rows.wireRepliesSpec).preRow enc Tryd.prog Tryd.f8 Rows.wireRepliesRow.domain false Rows.wireRepliesRow.laid) (((OpenSpec.ofChange Rows.wireRepliesSpec).at F).post enc Tryd.prog Tryd.f8 false true false false) := by
  obtain ⟨places, hx⟩ := reads os enc
  refine returnsInHanded_of_row (C := Tryd.checked) (s := OpenSpec.ofChange Rows.wireRepliesSpec) own started (by kernel_rfl) Tryd.func8
    (witness_row_at (enc := enc) (C := Tryd.checked) false (laidWorld os) #[.slice none 0 0] rfl (by kernel_rfl) (by kernel_rfl) (by kernel_rfl)
      (OpenSpec.preRow_of_cond 8 hx (by kernel_rfl) (fun k hk => by cases hk) (by kernel_rfl) (laid_met os))) ?_
  intro W base args ds gs before hval hW _ _ _ hL _ _
  exact contract H enc W base args ds gs before hval hW hL

theorem said : Rows.WireRepliesSaid :=
  OpenClaim.holds_of_cond 8 Tryd.f8 rfl rfl rfl rfl rfl rfl rfl ⟨rfl, rfl, rfl, rfl, rfl⟩ rfl rfl rfl rfl rfl (by kernel_rfl) Tryd.func8 (by kernel_rfl)
    (of_decide_eq_true (by kernel_rfl)) (by unfold Func.isWrapper; first | (rw [if_pos (by decide +kernel)]; kernel_rfl) | (rw [if_neg (by decide +kernel)]; exact ⟨rfl, rfl⟩))
    (fun os started H enc _ F => by rw [OpenClaim.pre_eq_preRow]; exact lifted os started H enc F)

theorem plain (f : FuncId) (fn : Func) (hf : Tryd.pinned.checked.prog.funcNamed "ringroad/ringroadlaw26.WireReplies" = some f) (hfn : Tryd.pinned.checked.prog.funcs[f]? = some fn) :
    true = Tryd.pinned.checked.prog.looks [] ∧ ∀ (j : Nat) t, fn.params[j]? = some t → Tryd.pinned.checked.prog.wantsStandIn t = false := by
  obtain rfl : f = 8 := Option.some.inj ((show Tryd.prog.funcNamed "ringroad/ringroadlaw26.WireReplies" = some 8 by kernel_rfl).symm.trans hf) |>.symm
  obtain rfl : fn = Tryd.f8 := (Option.some.inj (Tryd.func8.symm.trans hfn)).symm
  refine ⟨by kernel_rfl, fun j t ht => ?_⟩
  rw [Tryd.params8] at ht
  obtain rfl : t = 43 := by simpa using Array.mem_of_getElem? ht
  exact (show Tryd.prog.wantsStandIn 43 = false by kernel_rfl)

/-- The card. -/
theorem proved : Rows.WireRepliesCardSaid :=
  Claim7.holds_tied_plain_at .later [] _ _ _ _ said (fun _ h => by cases h) (by kernel_rfl) (fun _ h => by cases h) wireReplies_row_tie rfl ⟨rfl, rfl⟩ (by kernel_rfl) rfl plain (by kernel_rfl)
#print axioms proved
end Go.Proofs.YteapmebmgaggcaaDoor.wireReplies
