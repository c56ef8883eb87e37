/-
  Proved: the law ringroadlaw26.WireBack answers true for every input, and leaves its arguments as they were. Conditions: the table wire.needs holds what the program's text lays (the card ties it).
-/
import Derived.Test.YteapmebmgaggcaaDoorPs
import Derived.Test.YteapmebmgaggcaaDoorPe
import Derived.Test.YteapmebmgaggcaaDoorVn
import Derived.ShutString
import Derived.ChangeOld
import Derived.Below
namespace Go.Proofs.YteapmebmgaggcaaDoor.wireBack
open Go.ChangeShapes Go.WideShapes Go.ChangeAt Go.RowKit
open Go.Proofs.YteapmebmgaggcaaDoor.PW Go.Proofs.YteapmebmgaggcaaDoor.PRow Go.Proofs.YteapmebmgaggcaaDoorW.PrintWords Go.Proofs.YteapmebmgaggcaaDoorW.PrintLast Go.Proofs.YteapmebmgaggcaaDoorW.PrintMore
set_option linter.unusedVariables false

theorem op_val (o : S30) (k : Nat) (h0 : 0 ≤ o.f4) (h1 : o.f4 < 18446744073709551616) : ringroadref26_Op.f k o.f0 o.f1 o.f2 o.f3 o.f4 = some (opB o) := by
  unfold ringroadref26_Op.f ringroadref02_Put.f
  rw [put8 _ _ (by simp) h0 h1]
  rfl
theorem script_l0 (l : List S30) (hu : U64s l) (hl : l.length < 1000000) : ∀ (n k i : Nat) (a : List Int), l.length = i + n → n < k → a.length + 12 * n < 1000000000 →
    ringroadref26_Script.l0 k l a (i : Int) = some (a ++ opsB (l.drop i)) := by
  intro n
  induction n with
  | zero =>
    intro k i a h1 h2 h3
    obtain ⟨k, rfl⟩ : ∃ j, k = j + 1 := ⟨k - 1, by omega⟩
    rw [ringroadref26_Script.l0, if_neg (by omega), List.drop_of_length_le (by omega)]
    simp [opsB]
  | succ n ih =>
    intro k i a h1 h2 h3
    obtain ⟨k, rfl⟩ : ∃ j, k = j + 1 := ⟨k - 1, by omega⟩
    have hi : i < l.length := by omega
    have hm := hu l[i] (List.getElem_mem hi)
    have e : wrap64 ((i : Int) + 1) = ((i + 1 : Nat) : Int) := by rw [wz (by omega) (by omega)]; omega
    rw [ringroadref26_Script.l0, if_pos (by omega), if_pos (by omega), rdT l i hi, op_val _ _ hm.1 hm.2, Option.bind_some, if_pos (by rw [opB_length]; omega), e, ih k (i + 1) _ (by omega) (by omega) (by rw [List.length_append, opB_length]; omega), List.drop_eq_getElem_cons hi]
    simp only [opsB, List.flatMap_cons, List.append_assoc]
theorem script_val (s : SU) (l : List S30) (hu : U64s l) (hl : l.length < 1000000) (k : Nat) (hk : l.length < k) : ringroadref26_Script.f k s.ve s.jo s.au s.pe s.pa l = some (headB s ++ opsB l) := by
  unfold ringroadref26_Script.f
  have := script_l0 l hu hl l.length k 0 (headB s) (by omega) hk (by have : (headB s).length = 8 := rfl
                                                                     omega)
  simpa [headB] using this
/-- The law's end, behind its loop. -/
theorem end_true (s : SU) (l : List S30) (hu : U64s l) (hl : l.length ≤ 500) (k : Nat) (hk : 12 * l.length + 30 < k) : ringroadlaw26_WireBack.l0 (k + 1) l (okS s && mayAll l) (l.length : Int) s.ve s.jo s.au s.pe s.pa = some true := by
  rw [ringroadlaw26_WireBack.l0, if_neg (by omega), encode_val s l hu k (by omega), Option.bind_some]
  have e1 : wrap64 (12 * (l.length : Int)) = 12 * (l.length : Int) := wz (by omega) (by omega)
  have e2 : wrap64 (8 + 12 * (l.length : Int)) = 8 + 12 * (l.length : Int) := wz (by omega) (by omega)
  rw [e1, e2]
  cases hm : (okS s && mayAll l)
  · have e : encSpec s l = ([], 1) := by
      unfold encSpec
      rw [if_neg (by rintro ⟨h1, h2⟩; rw [h1, h2] at hm; cases hm)]
    rw [e]
    rfl
  · rw [Bool.and_eq_true] at hm
    rw [if_pos (rfl : true = true)]
    by_cases h : l.length > 340
    · have e : encSpec s l = ([], 9) := by unfold encSpec; rw [if_pos hm, if_pos h]
      rw [if_pos (by omega), e]
      rfl
    · have e : encSpec s l = (headB s ++ opsB l, 0) := by unfold encSpec; rw [if_pos hm, if_neg h]
      rw [if_neg (by omega), e]
      dsimp only
      rw [decode_val _ (byt_app (headB_byt s) (opsB_byt l)) k (by rw [List.length_append, opsB_length]; have : (headB s).length = 8 := rfl
                                                                  omega), Option.bind_some, if_pos rfl, script_val s l hu (by omega) k (by omega), Option.bind_some, if_pos rfl, dec_enc hm.1 hm.2 (by omega) hu]
      rw [if_pos rfl, if_pos (by simp), ops_self l k (by omega) (by omega)]
      rfl
theorem loop_true (s : SU) (l : List S30) (hu : U64s l) (hl : l.length ≤ 500) : ∀ (n k i : Nat), l.length = i + n → n + 12 * l.length + 31 < k →
    ringroadlaw26_WireBack.l0 k l (okS s && mayAll (l.take i)) (i : Int) s.ve s.jo s.au s.pe s.pa = some true := by
  intro n
  induction n with
  | zero =>
    intro k i h1 h2
    obtain ⟨k, rfl⟩ : ∃ j, k = j + 1 := ⟨k - 1, by omega⟩
    obtain rfl : i = l.length := by omega
    rw [List.take_of_length_le (Nat.le_refl _)]
    exact end_true s l hu hl k (by omega)
  | succ n ih =>
    intro k i h1 h2
    obtain ⟨k, rfl⟩ : ∃ j, k = j + 1 := ⟨k - 1, by omega⟩
    have hi : i < l.length := by omega
    have e : wrap64 ((i : Int) + 1) = ((i + 1 : Nat) : Int) := by rw [wz (by omega) (by omega)]; omega
    have hn := ih k (i + 1) (by omega) (by omega)
    have ht : mayAll (l.take (i + 1)) = (mayAll (l.take i) && mayB (opOf l[i])) := by
      unfold mayAll
      rw [List.take_succ_eq_append_getElem hi, List.all_append]
      simp only [List.all_cons, List.all_nil, Bool.and_true]
    rw [ringroadlaw26_WireBack.l0, if_pos (by omega), if_pos (by omega), rdT l i hi]
    have hw : wire_May.f l[i].f0 l[i].f1 l[i].f2 l[i].f3 l[i].f4 = some (mayB (opOf l[i])) := rfl
    have hr : ringroadref26_May.f l[i].f0 l[i].f1 l[i].f2 l[i].f3 l[i].f4 = some (mayB (opOf l[i])) := rfl
    rw [hw, hr, Option.bind_some, Option.bind_some, if_neg (by simp), e]
    rw [ht, ← Bool.and_assoc] at hn
    cases hm : (okS s && mayAll (l.take i))
    · rw [if_neg (by simp)]
      rw [hm] at hn
      simpa using hn
    · rw [if_pos rfl, Option.bind_some]
      rw [hm] at hn
      simpa using hn

/-- What the law's walk computes is true. -/
theorem value (s : SU) (l : List S30) (hu : U64s l) : ∃ k, ringroadlaw26_WireBack.f k s.ve s.jo s.au s.pe s.pa l = some true := by
  refine ⟨13 * l.length + 60, ?_⟩
  unfold ringroadlaw26_WireBack.f
  rw [awake_val _ (by omega), Option.bind_some, if_pos (rfl : true = true)]
  by_cases h : l.length > 500
  · rw [if_pos (show (l.length : Int) > 500 by omega)]
  · rw [if_neg (show ¬ (l.length : Int) > 500 by omega)]
    unfold ringroadref26_Setup.f wire_Setup.f
    rw [Option.bind_some, Option.bind_some, if_neg (by simp)]
    have := loop_true s l hu (by omega) l.length (13 * l.length + 60) 0 (by omega) (by omega)
    simpa [mayAll] using this

theorem walk {w : World} (s : SU) (A : Option Addr) (l : List S30) (c : Nat) (hc : l.length ≤ c) (hr : Kd.C k30 w A l.length l) (hu : ∀ o ∈ l, 0 ≤ o.f4 ∧ o.f4 < 18446744073709551616) (hN : NeedsOk w) :
    Calls Tryd.prog 3 #[s.val, .slice A l.length c] w fun e w' => e = .returned (.bool true) ∧ Below w.heap.size w w' := by
  obtain ⟨k, hk⟩ := value s l hu
  exact ringroadlaw26_WireBack.calls k s.ve s.jo s.au s.pe s.pa A c l true rfl w hr hc hN hk


theorem contract (H : Type) (enc : TypeId × Value → H) (W : World) (base : Nat) (args : Array Value) (ds gs : List (DataW H)) (before : List MemPlace)
    (hval : ∀ (j : Nat) t v, Tryd.f3.params[j]? = some t → args[j]? = some v → Value.okWide Tryd.prog W .any base t v)
    (hW : DataW.Whole enc Tryd.prog Tryd.f3.params.toList Rows.wireBackSpec.vars false W args.toList ds gs before) (hL : laidMetH Tryd.prog Rows.wireBackRow.laid W) :
    Calls Tryd.prog 3 args W fun e W' => ∃ v, e = .returned v ∧ Rows.wireBackSpec.post enc Tryd.prog Tryd.f3 false true false false W args v W' := by
  have hW' := hW
  obtain ⟨p, q, hA0, hV, rfl, hfz, hnd⟩ := hW
  have hA : DataW.TrodAll enc Tryd.prog W 0 (fun _ => true) true Tryd.f3.params.toList args.toList ds p := hA0
  rw [Tryd.params3] at hA hval
  obtain ⟨v0, vs0, d0, ds0, p0, q0, hargs, rfl, rfl, h0, r0⟩ := trodAll_cons hA
  obtain ⟨v1, vs1, d1, ds1, p1, q1, rfl, rfl, rfl, h1, r1⟩ := trodAll_cons r0
  obtain ⟨rfl, rfl, rfl⟩ := trodAll_nil r1
  obtain rfl : args = #[v0, v1] := by cases args; simp_all
  obtain ⟨rfl, rfl⟩ := trodVars_none hV
  have k0 := h0
  have lt0 : ∀ x ∈ p0, x.block < W.heap.size := by obtain ⟨m, hm⟩ := k0; exact DataW.trod_lt m _ _ _ hm
  have k1 := h1
  have lt1 : ∀ x ∈ p1, x.block < W.heap.size := by obtain ⟨m, hm⟩ := k1; exact DataW.trod_lt m _ _ _ hm
  obtain ⟨s0, rfl⟩ := open_setup (hval 0 23 v0 rfl rfl) h0
  obtain ⟨A1, l1, c1, rfl, hc1, hm1, hr1, hu1⟩ := open_ops (hval 1 24 v1 rfl rfl) h1
  clear hA0
  refine (walk s0 A1 l1 c1 hc1 hr1 hu1 (needs_of hL)).mono fun e W' ⟨he, bel⟩ => ?_
  subst he
  exact ⟨_, rfl, _, _, _, [], _, [], hW', trodAll_mk1 (shut_bool Tryd.underlying4 _), (trodAll_cons_mk (Below.trod laidOut (by kernel_rfl) (of_decide_eq_true (by kernel_rfl)) k0 bel lt0) (trodAll_cons_mk (Below.trod laidOut (by kernel_rfl) (of_decide_eq_true (by kernel_rfl)) k1 bel lt1) trodAll_mk0)), rfl, bel.frame _, fun h => by cases h⟩

theorem laid_met (os : Os) : laidMet Tryd.prog Rows.wireBackRow.laid ((laidWorld os).forCall (fun _ _ => 0) ⟨#[], #[.agg #[.int .i64 0, .int .i64 0, .int .i64 0, .int .i64 0, .int .i64 0], .slice none 0 0], []⟩).memory :=
  laidMet_of_run' 8 (by kernel_rfl) (by kernel_rfl)
theorem reads (os : Os) {H : Type} (enc : TypeId × Value → H) : ∃ places, DataW.whole enc Tryd.prog ((laidWorld os).forCall (fun _ _ => 0) ⟨#[], #[.agg #[.int .i64 0, .int .i64 0, .int .i64 0, .int .i64 0, .int .i64 0], .slice none 0 0], []⟩).memory Tryd.f3.params.toList Rows.wireBackSpec.vars false (#[.agg #[.int .i64 0, .int .i64 0, .int .i64 0, .int .i64 0, .int .i64 0], .slice none 0 0] : Array Value).toList 8 = some ([.agg [.lit (.int .i64 0), .lit (.int .i64 0), .lit (.int .i64 0), .lit (.int .i64 0), .lit (.int .i64 0)], .nil], [], places) :=
  ⟨[], by kernel_rfl⟩

set_option maxRecDepth 100000 in
theorem lifted (os : Os) (started : os.Started) (H : Type) (enc : TypeId × Value → H) (F : Stop.Interp) :
    ReturnsInHanded {} Tryd.checked os 3 .any ((OpenSpec.ofChange Rows.wireBackSpec).preRow enc Tryd.prog Tryd.f3 Rows.wireBackRow.domain false Rows.wireBackRow.laid) (((OpenSpec.ofChange Rows.wireBackSpec).at F).post enc Tryd.prog Tryd.f3 false true false false) := by
  obtain ⟨places, hx⟩ := reads os enc
  refine returnsInHanded_of_row (C := Tryd.checked) (s := OpenSpec.ofChange Rows.wireBackSpec) own started (by kernel_rfl) Tryd.func3
    (witness_row_at (enc := enc) (C := Tryd.checked) false (laidWorld os) #[.agg #[.int .i64 0, .int .i64 0, .int .i64 0, .int .i64 0, .int .i64 0], .slice none 0 0] rfl (by kernel_rfl) (by kernel_rfl) (by kernel_rfl)
      (OpenSpec.preRow_of_cond 8 hx (by kernel_rfl) (fun k hk => by cases hk) (by kernel_rfl) (laid_met os))) ?_
  intro W base args ds gs before hval hW _ _ _ hL _ _
  exact contract H enc W base args ds gs before hval hW hL

theorem said : Rows.WireBackSaid :=
  OpenClaim.holds_of_cond 3 Tryd.f3 rfl rfl rfl rfl rfl rfl rfl ⟨rfl, rfl, rfl, rfl, rfl⟩ rfl rfl rfl rfl rfl (by kernel_rfl) Tryd.func3 (by kernel_rfl)
    (of_decide_eq_true (by kernel_rfl)) (by unfold Func.isWrapper; first | (rw [if_pos (by decide +kernel)]; kernel_rfl) | (rw [if_neg (by decide +kernel)]; exact ⟨rfl, rfl⟩))
    (fun os started H enc _ F => by rw [OpenClaim.pre_eq_preRow]; exact lifted os started H enc F)

theorem plain (f : FuncId) (fn : Func) (hf : Tryd.pinned.checked.prog.funcNamed "ringroad/ringroadlaw26.WireBack" = some f) (hfn : Tryd.pinned.checked.prog.funcs[f]? = some fn) :
    true = Tryd.pinned.checked.prog.looks [] ∧ ∀ (j : Nat) t, fn.params[j]? = some t → Tryd.pinned.checked.prog.wantsStandIn t = false := by
  obtain rfl : f = 3 := Option.some.inj ((show Tryd.prog.funcNamed "ringroad/ringroadlaw26.WireBack" = some 3 by kernel_rfl).symm.trans hf) |>.symm
  obtain rfl : fn = Tryd.f3 := (Option.some.inj (Tryd.func3.symm.trans hfn)).symm
  refine ⟨by kernel_rfl, fun j t ht => ?_⟩
  rw [Tryd.params3] at ht
  have hm : t = 23 ∨ t = 24 := by simpa using Array.mem_of_getElem? ht
  rcases hm with rfl | rfl
  · exact (show Tryd.prog.wantsStandIn 23 = false by kernel_rfl)
  · exact (show Tryd.prog.wantsStandIn 24 = false by kernel_rfl)

/-- The card. -/
theorem proved : Rows.WireBackCardSaid :=
  Claim7.holds_tied_plain_at .later [] _ _ _ _ said (fun _ h => by cases h) (by kernel_rfl) (fun _ h => by cases h) wireBack_row_tie rfl ⟨rfl, rfl⟩ (by kernel_rfl) rfl plain (by kernel_rfl)
#print axioms proved
end Go.Proofs.YteapmebmgaggcaaDoor.wireBack
