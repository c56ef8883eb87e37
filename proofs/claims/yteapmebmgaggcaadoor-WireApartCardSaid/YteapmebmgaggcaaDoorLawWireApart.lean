/-
  Proved: the law ringroadlaw26.WireApart answers true for every input, and leaves its arguments as they were. Conditions: the table wire.needs holds what the program's text lays (the card ties it).
-/
import Derived.Test.YteapmebmgaggcaaDoorPs
import Derived.Test.YteapmebmgaggcaaDoorPe
import Derived.Test.YteapmebmgaggcaaDoorVo
import Derived.ShutString
import Derived.ChangeOld
import Derived.Below
namespace Go.Proofs.YteapmebmgaggcaaDoor.wireApart
open Go.ChangeShapes Go.WideShapes Go.ChangeAt Go.RowKit
open Go.Proofs.YteapmebmgaggcaaDoor.PW Go.Proofs.YteapmebmgaggcaaDoor.PRow Go.Proofs.YteapmebmgaggcaaDoorW.PrintWords Go.Proofs.YteapmebmgaggcaaDoorW.PrintLast Go.Proofs.YteapmebmgaggcaaDoorW.PrintMore
set_option linter.unusedVariables false

theorem ne_iff (x y : S30) : (!(x.f0 == y.f0) || (!(x.f1 == y.f1) || (!(x.f2 == y.f2) || (!(x.f3 == y.f3) || (!(x.f4 == y.f4)))))) = true ↔ x ≠ y := by
  constructor
  · rintro h rfl
    simp at h
  · intro h
    rcases x with ⟨a0, a1, a2, a3, a4⟩
    rcases y with ⟨b0, b1, b2, b3, b4⟩
    apply Decidable.byContradiction
    intro h2
    apply h
    simp at h2
    obtain ⟨rfl, rfl, rfl, rfl, rfl⟩ := h2
    rfl
theorem ops_l0_any (a b : List S30) (hab : a.length = b.length) (hm : a.length < 1000000) : ∀ (n k i : Nat), a.length = i + n → n < k → (∀ j (h : j < i) (h1 : j < a.length) (h2 : j < b.length), a[j] = b[j]) →
    ∃ r, ringroadlaw26_ops.l0 k a b (i : Int) = some r ∧ (r = true ↔ a = b) := by
  intro n
  induction n with
  | zero =>
    intro k i hl hk hj
    obtain ⟨k, rfl⟩ : ∃ j, k = j + 1 := ⟨k - 1, by omega⟩
    rw [ringroadlaw26_ops.l0, if_neg (by omega)]
    refine ⟨true, rfl, ?_⟩
    simp only [true_iff]
    exact List.ext_getElem hab (fun j h1 h2 => hj j (by omega) h1 h2)
  | succ n ih =>
    intro k i hl hk hj
    obtain ⟨k, rfl⟩ : ∃ j, k = j + 1 := ⟨k - 1, by omega⟩
    have hi : i < a.length := by omega
    have hi2 : i < b.length := by omega
    have e : wrap64 ((i : Int) + 1) = ((i + 1 : Nat) : Int) := by rw [wz (by omega) (by omega)]; omega
    rw [ringroadlaw26_ops.l0, if_pos (by omega), if_pos (by omega), if_pos (by omega), rdT a i hi, rdT b i hi2, e]
    by_cases hne : a[i] = b[i]
    · rw [if_neg (fun h => (ne_iff _ _).1 h hne)]
      refine ih k (i + 1) (by omega) (by omega) (fun j h h1 h2 => ?_)
      rcases Nat.lt_or_ge j i with hji | hji
      · exact hj j hji h1 h2
      · obtain rfl : j = i := by omega
        exact hne
    · rw [if_pos ((ne_iff _ _).2 hne)]
      refine ⟨false, rfl, ?_⟩
      constructor
      · intro h; cases h
      · intro h; subst h; exact absurd rfl hne
theorem ops_any (a b : List S30) (hm : a.length < 1000000) (k : Nat) (hk : a.length < k) : ∃ r, ringroadlaw26_ops.f k a b = some r ∧ (r = true ↔ a = b) := by
  unfold ringroadlaw26_ops.f
  by_cases h : a.length = b.length
  · rw [if_pos (by omega)]
    exact ops_l0_any a b h hm a.length k 0 (by omega) hk (fun j h => by omega)
  · rw [if_neg (by omega)]
    refine ⟨false, rfl, ?_⟩
    constructor
    · intro h; cases h
    · intro h2; subst h2; exact absurd rfl h
theorem opsB_take : ∀ (a : List S30) (m : Nat), (opsB a).take (12 * m) = opsB (a.take m) := by
  intro a
  induction a with
  | nil => intro m; simp [opsB]
  | cons o r ih =>
    intro m
    cases m with
    | zero => simp [opsB]
    | succ m =>
      have e : opsB (o :: r) = opB o ++ opsB r := by simp [opsB]
      have e2 : opsB ((o :: r).take (m + 1)) = opB o ++ opsB (r.take m) := by simp [opsB]
      rw [e, e2, List.take_append, opB_length, List.take_of_length_le (by rw [opB_length]; omega), show 12 * (m + 1) - 12 = 12 * m by omega, ih]
theorem opsB_inj {a b : List S30} (ha : mayAll a = true) (hb : mayAll b = true) (ua : U64s a) (ub : U64s b) (h : opsB a = opsB b) : a = b := by
  have h1 := pieces_ops a (12 * a.length + 12 * b.length) (by omega) ha ua
  have h2 := pieces_ops b (12 * a.length + 12 * b.length) (by omega) hb ub
  rw [← h1, h, h2]
theorem mayAll_take {a : List S30} (h : mayAll a = true) (m : Nat) : mayAll (a.take m) = true := by
  unfold mayAll at h ⊢
  rw [List.all_eq_true] at h ⊢
  exact fun o ho => h o (List.mem_of_mem_take ho)

/-- What the law's walk computes is true. -/
theorem value (s : SU) (a b : List S30) (ua : U64s a) (ub : U64s b) : ∃ k, ringroadlaw26_WireApart.f k s.ve s.jo s.au s.pe s.pa a b = some true := by
  refine ⟨12 * a.length + 12 * b.length + 60, ?_⟩
  unfold ringroadlaw26_WireApart.f
  rw [awake_val _ (by omega), Option.bind_some, if_pos (rfl : true = true)]
  obtain ⟨K, hK⟩ : ∃ j, 12 * a.length + 12 * b.length + 60 = j + 2 := ⟨12 * a.length + 12 * b.length + 58, rfl⟩
  rw [hK]
  have big : ringroadlaw26_WireApart.j0 (K + 2) a b true s.ve s.jo s.au s.pe s.pa = some true := by rw [ringroadlaw26_WireApart.j0]; rfl
  by_cases h1 : a.length > 100
  · rw [if_pos (show (a.length : Int) > 100 by omega), big]
  rw [if_neg (show ¬ (a.length : Int) > 100 by omega)]
  by_cases h2 : b.length > 100
  · rw [decide_eq_true (show (b.length : Int) > 100 by omega), big]
  rw [decide_eq_false (show ¬ (b.length : Int) > 100 by omega), ringroadlaw26_WireApart.j0, if_neg (by simp), encode_val s a ua _ (by omega), Option.bind_some, encode_val s b ub _ (by omega), Option.bind_some]
  have hA : (okS s = true ∧ mayAll a = true ∧ encSpec s a = (headB s ++ opsB a, 0)) ∨ encSpec s a = ([], 1) := by
    unfold encSpec
    by_cases h : okS s = true ∧ mayAll a = true
    · left; rw [if_pos h, if_neg (by omega)]; exact ⟨h.1, h.2, rfl⟩
    · right; rw [if_neg h]
  have hB : (okS s = true ∧ mayAll b = true ∧ encSpec s b = (headB s ++ opsB b, 0)) ∨ encSpec s b = ([], 1) := by
    unfold encSpec
    by_cases h : okS s = true ∧ mayAll b = true
    · left; rw [if_pos h, if_neg (by omega)]; exact ⟨h.1, h.2, rfl⟩
    · right; rw [if_neg h]
  rcases hA with ⟨ho, ha, ea⟩ | ea
  rotate_left
  · rw [ea, if_neg (by decide), ringroadlaw26_WireApart.j1, if_pos rfl]
    rfl
  rcases hB with ⟨_, hb, eb⟩ | eb
  rotate_left
  · rw [eb, ea, if_pos rfl, show ((1 : Int) != 0) = true from rfl, ringroadlaw26_WireApart.j1, if_pos rfl]
    split <;> rfl
  rw [ea, eb, if_pos rfl, show ((0 : Int) != 0) = false from rfl]
  dsimp only
  have hx : Byt (headB s ++ opsB a) := byt_app (headB_byt s) (opsB_byt a)
  have hy : Byt (headB s ++ opsB b) := byt_app (headB_byt s) (opsB_byt b)
  have hl8 : (headB s).length = 8 := rfl
  have hxl : (headB s ++ opsB a).length = 8 + 12 * a.length := by rw [List.length_append, opsB_length, hl8]
  obtain ⟨r, hr, hrr⟩ := ops_any a b (by omega) K (by omega)
  rw [ringroadlaw26_WireApart.j1, if_neg (by simp), hr, Option.bind_some]
  have hsame : ((strOfNums (headB s ++ opsB a)).toList == (strOfNums (headB s ++ opsB b)).toList) = r := by
    rw [Bool.eq_iff_iff, hrr, beq_iff_eq, nums_same hx hy]
    constructor
    · intro h
      exact opsB_inj ha hb ua ub (List.append_cancel_left h)
    · rintro rfl; rfl
  rw [hsame, if_neg (by simp)]
  by_cases h0 : a.length = 0
  · rw [if_pos (by omega), hxl, h0]
    rfl
  rw [if_neg (by omega)]
  have e1 : wrap64 ((a.length : Int) - 1) = (a.length : Int) - 1 := wz (by omega) (by omega)
  have e2 : wrap64 (12 * ((a.length : Int) - 1)) = 12 * ((a.length : Int) - 1) := wz (by omega) (by omega)
  have e3 : wrap64 (8 + 12 * ((a.length : Int) - 1)) = ((8 + 12 * (a.length - 1) : Nat) : Int) := by rw [wz (by omega) (by omega)]; omega
  rw [e1, e2, e3, if_pos (by omega), if_pos (by omega), Int.toNat_natCast]
  have ht : (headB s ++ opsB a).take (8 + 12 * (a.length - 1)) = headB s ++ opsB (a.take (a.length - 1)) := by
    rw [List.take_append, hl8, List.take_of_length_le (by omega), show 8 + 12 * (a.length - 1) - 8 = 12 * (a.length - 1) by omega, opsB_take]
  have htl : (a.take (a.length - 1)).length ≤ 100 := by rw [List.length_take]; omega
  rw [ht, decode_val _ (byt_app (headB_byt s) (opsB_byt _)) K (by rw [List.length_append, opsB_length, hl8, List.length_take]; omega), Option.bind_some, dec_enc ho (mayAll_take ha _) (by omega) (fun o h => ua o (List.mem_of_mem_take h))]
  rw [if_pos rfl, ops_self _ K (by rw [List.length_take]; omega) (by rw [List.length_take]; omega)]
  rfl

theorem walk {w : World} (s : SU) (A : Option Addr) (a : List S30) (c : Nat) (hc : a.length ≤ c) (hr : Kd.C k30 w A a.length a) (ua : ∀ o ∈ a, 0 ≤ o.f4 ∧ o.f4 < 18446744073709551616)
    (B : Option Addr) (b : List S30) (d : Nat) (hd : b.length ≤ d) (hs : Kd.C k30 w B b.length b) (ub : ∀ o ∈ b, 0 ≤ o.f4 ∧ o.f4 < 18446744073709551616) (hN : NeedsOk w) :
    Calls Tryd.prog 5 #[s.val, .slice A a.length c, .slice B b.length d] w fun e w' => e = .returned (.bool true) ∧ Below w.heap.size w w' := by
  obtain ⟨k, hk⟩ := value s a b ua ub
  exact ringroadlaw26_WireApart.calls k s.ve s.jo s.au s.pe s.pa A c a B d b true rfl w hr hc hs hd hN hk


theorem contract (H : Type) (enc : TypeId × Value → H) (W : World) (base : Nat) (args : Array Value) (ds gs : List (DataW H)) (before : List MemPlace)
    (hval : ∀ (j : Nat) t v, Tryd.f5.params[j]? = some t → args[j]? = some v → Value.okWide Tryd.prog W .any base t v)
    (hW : DataW.Whole enc Tryd.prog Tryd.f5.params.toList Rows.wireApartSpec.vars false W args.toList ds gs before) (hL : laidMetH Tryd.prog Rows.wireApartRow.laid W) :
    Calls Tryd.prog 5 args W fun e W' => ∃ v, e = .returned v ∧ Rows.wireApartSpec.post enc Tryd.prog Tryd.f5 false true false false W args v W' := by
  have hW' := hW
  obtain ⟨p, q, hA0, hV, rfl, hfz, hnd⟩ := hW
  have hA : DataW.TrodAll enc Tryd.prog W 0 (fun _ => true) true Tryd.f5.params.toList args.toList ds p := hA0
  rw [Tryd.params5] at hA hval
  obtain ⟨v0, vs0, d0, ds0, p0, q0, hargs, rfl, rfl, h0, r0⟩ := trodAll_cons hA
  obtain ⟨v1, vs1, d1, ds1, p1, q1, rfl, rfl, rfl, h1, r1⟩ := trodAll_cons r0
  obtain ⟨v2, vs2, d2, ds2, p2, q2, rfl, rfl, rfl, h2, r2⟩ := trodAll_cons r1
  obtain ⟨rfl, rfl, rfl⟩ := trodAll_nil r2
  obtain rfl : args = #[v0, v1, v2] := by cases args; simp_all
  obtain ⟨rfl, rfl⟩ := trodVars_none hV
  have k0 := h0
  have lt0 : ∀ x ∈ p0, x.block < W.heap.size := by obtain ⟨m, hm⟩ := k0; exact DataW.trod_lt m _ _ _ hm
  have k1 := h1
  have lt1 : ∀ x ∈ p1, x.block < W.heap.size := by obtain ⟨m, hm⟩ := k1; exact DataW.trod_lt m _ _ _ hm
  have k2 := h2
  have lt2 : ∀ x ∈ p2, x.block < W.heap.size := by obtain ⟨m, hm⟩ := k2; exact DataW.trod_lt m _ _ _ hm
  obtain ⟨s0, rfl⟩ := open_setup (hval 0 23 v0 rfl rfl) h0
  obtain ⟨A1, l1, c1, rfl, hc1, hm1, hr1, hu1⟩ := open_ops (hval 1 24 v1 rfl rfl) h1
  obtain ⟨A2, l2, c2, rfl, hc2, hm2, hr2, hu2⟩ := open_ops (hval 2 24 v2 rfl rfl) h2
  clear hA0
  refine (walk s0 A1 l1 c1 hc1 hr1 hu1 A2 l2 c2 hc2 hr2 hu2 (needs_of hL)).mono fun e W' ⟨he, bel⟩ => ?_
  subst he
  exact ⟨_, rfl, _, _, _, [], _, [], hW', trodAll_mk1 (shut_bool Tryd.underlying4 _), (trodAll_cons_mk (Below.trod laidOut (by kernel_rfl) (of_decide_eq_true (by kernel_rfl)) k0 bel lt0) (trodAll_cons_mk (Below.trod laidOut (by kernel_rfl) (of_decide_eq_true (by kernel_rfl)) k1 bel lt1) (trodAll_cons_mk (Below.trod laidOut (by kernel_rfl) (of_decide_eq_true (by kernel_rfl)) k2 bel lt2) trodAll_mk0))), rfl, bel.frame _, fun h => by cases h⟩

theorem laid_met (os : Os) : laidMet Tryd.prog Rows.wireApartRow.laid ((laidWorld os).forCall (fun _ _ => 0) ⟨#[], #[.agg #[.int .i64 0, .int .i64 0, .int .i64 0, .int .i64 0, .int .i64 0], .slice none 0 0, .slice none 0 0], []⟩).memory :=
  laidMet_of_run' 8 (by kernel_rfl) (by kernel_rfl)
theorem reads (os : Os) {H : Type} (enc : TypeId × Value → H) : ∃ places, DataW.whole enc Tryd.prog ((laidWorld os).forCall (fun _ _ => 0) ⟨#[], #[.agg #[.int .i64 0, .int .i64 0, .int .i64 0, .int .i64 0, .int .i64 0], .slice none 0 0, .slice none 0 0], []⟩).memory Tryd.f5.params.toList Rows.wireApartSpec.vars false (#[.agg #[.int .i64 0, .int .i64 0, .int .i64 0, .int .i64 0, .int .i64 0], .slice none 0 0, .slice none 0 0] : Array Value).toList 8 = some ([.agg [.lit (.int .i64 0), .lit (.int .i64 0), .lit (.int .i64 0), .lit (.int .i64 0), .lit (.int .i64 0)], .nil, .nil], [], places) :=
  ⟨[], by kernel_rfl⟩

set_option maxRecDepth 100000 in
theorem lifted (os : Os) (started : os.Started) (H : Type) (enc : TypeId × Value → H) (F : Stop.Interp) :
    ReturnsInHanded {} Tryd.checked os 5 .any ((OpenSpec.ofChange Rows.wireApartSpec).preRow enc Tryd.prog Tryd.f5 Rows.wireApartRow.domain false Rows.wireApartRow.laid) (((OpenSpec.ofChange Rows.wireApartSpec).at F).post enc Tryd.prog Tryd.f5 false true false false) := by
  obtain ⟨places, hx⟩ := reads os enc
  refine returnsInHanded_of_row (C := Tryd.checked) (s := OpenSpec.ofChange Rows.wireApartSpec) own started (by kernel_rfl) Tryd.func5
    (witness_row_at (enc := enc) (C := Tryd.checked) false (laidWorld os) #[.agg #[.int .i64 0, .int .i64 0, .int .i64 0, .int .i64 0, .int .i64 0], .slice none 0 0, .slice none 0 0] rfl (by kernel_rfl) (by kernel_rfl) (by kernel_rfl)
      (OpenSpec.preRow_of_cond 8 hx (by kernel_rfl) (fun k hk => by cases hk) (by kernel_rfl) (laid_met os))) ?_
  intro W base args ds gs before hval hW _ _ _ hL _ _
  exact contract H enc W base args ds gs before hval hW hL

theorem said : Rows.WireApartSaid :=
  OpenClaim.holds_of_cond 5 Tryd.f5 rfl rfl rfl rfl rfl rfl rfl ⟨rfl, rfl, rfl, rfl, rfl⟩ rfl rfl rfl rfl rfl (by kernel_rfl) Tryd.func5 (by kernel_rfl)
    (of_decide_eq_true (by kernel_rfl)) (by unfold Func.isWrapper; first | (rw [if_pos (by decide +kernel)]; kernel_rfl) | (rw [if_neg (by decide +kernel)]; exact ⟨rfl, rfl⟩))
    (fun os started H enc _ F => by rw [OpenClaim.pre_eq_preRow]; exact lifted os started H enc F)

theorem plain (f : FuncId) (fn : Func) (hf : Tryd.pinned.checked.prog.funcNamed "ringroad/ringroadlaw26.WireApart" = some f) (hfn : Tryd.pinned.checked.prog.funcs[f]? = some fn) :
    true = Tryd.pinned.checked.prog.looks [] ∧ ∀ (j : Nat) t, fn.params[j]? = some t → Tryd.pinned.checked.prog.wantsStandIn t = false := by
  obtain rfl : f = 5 := Option.some.inj ((show Tryd.prog.funcNamed "ringroad/ringroadlaw26.WireApart" = some 5 by kernel_rfl).symm.trans hf) |>.symm
  obtain rfl : fn = Tryd.f5 := (Option.some.inj (Tryd.func5.symm.trans hfn)).symm
  refine ⟨by kernel_rfl, fun j t ht => ?_⟩
  rw [Tryd.params5] at ht
  have hm : t = 23 ∨ t = 24 ∨ t = 24 := by simpa using Array.mem_of_getElem? ht
  rcases hm with rfl | rfl | rfl
  · exact (show Tryd.prog.wantsStandIn 23 = false by kernel_rfl)
  · exact (show Tryd.prog.wantsStandIn 24 = false by kernel_rfl)
  · exact (show Tryd.prog.wantsStandIn 24 = false by kernel_rfl)

/-- The card. -/
theorem proved : Rows.WireApartCardSaid :=
  Claim7.holds_tied_plain_at .later [] _ _ _ _ said (fun _ h => by cases h) (by kernel_rfl) (fun _ h => by cases h) wireApart_row_tie rfl ⟨rfl, rfl⟩ (by kernel_rfl) rfl plain (by kernel_rfl)
#print axioms proved
end Go.Proofs.YteapmebmgaggcaaDoor.wireApart
