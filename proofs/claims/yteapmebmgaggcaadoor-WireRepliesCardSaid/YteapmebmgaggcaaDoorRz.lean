import Derived.Test.YteapmebmgaggcaaDoorVb
import Derived.Deep.LoopGhost
import Derived.Defers
import Derived.Recover
import Derived.Laws.Pointers
namespace Go.Proofs.YteapmebmgaggcaaDoor.PW
open Go.RowKit Go.Proofs.YteapmebmgaggcaaDoorW.PrintWords Go.Proofs.YteapmebmgaggcaaDoorW.PrintLast Go.Proofs.YteapmebmgaggcaaDoorW.PrintMore
set_option linter.unusedVariables false
set_option linter.unusedSimpArgs false

/-! #### octet.Get, the cut told for every world -/
theorem get_all (A : Option Addr) (l c : Nat) (xs : List Int) (a1 : Int) (w : World) (hb : ReadsInt w .u8 A l xs) (hx : Byt xs) (hlc : l ≤ c) (h0 : 0 ≤ a1) (h8 : a1 ≤ 8) (h : a1 ≤ (l : Int)) :
    Calls Tryd.prog 42 #[.slice A l c, .int .i64 a1] w fun e w' => ∃ A' : Option Addr, e = .returned (.tuple #[.int .u64 (numb (xs.take a1.toNat)), .slice A' (l - a1.toNat) (c - a1.toNat), .int .i64 0]) ∧ (∀ W : World, ReadsInt W .u8 A l xs → ReadsInt W .u8 A' (l - a1.toNat) (xs.drop a1.toNat)) ∧ Drawn0 w w' := by
  obtain ⟨n, rfl⟩ := Int.eq_ofNat_of_zero_le h0
  rw [Int.toNat_natCast]
  have hxl : Hid (xs.length = l) := Lib.hid hb.1
  obtain ⟨i0, hi, hzz⟩ := Option.map_eq_some_iff.1 infoU8
  simp only [Prod.mk.injEq] at hzz
  obtain ⟨A1, hcut, hA1⟩ := print_cut (P := Tryd.prog) 31 5 .i64 Tryd.underlying31 hi hzz.2.1 A l c n (by omega)
  have hA1' : Hid (∀ W : World, ReadsInt W .u8 A l xs → ReadsInt W .u8 A1 (l - n) (xs.drop n)) := Lib.hid fun W hW => hA1 W .u8 xs hlc hW
  clear hzz hi hA1
  go_enter Tryd.func42, Tryd.ntmps42
  go_wp2_with fail
  go_loop [7, 22] (fun u i => ∃ k : Nat, k ≤ n ∧ i = .int .i64 k ∧ u = .int .u64 (numb (xs.take k))) (fun _ i => n - (intOf i).toNat)
  case atStart => exact ⟨0, Nat.zero_le _, rfl, rfl⟩
  case round =>
    obtain ⟨k, hk, rfl, rfl⟩ := hrel
    by_cases hlt : k < n
    · obtain ⟨ad, rfl, hc⟩ := reads_nat hb k (by omega)
      have hkl : k < l := by omega
      have h8 := numb_lt8 hx k (by omega)
      have hr := hx.getD k
      have hnt : Hid (numb (xs.take (k + 1)) = bits .or .u64 (numb (xs.take k) * 256) (xs.getD k 0)) := Lib.hid (by rw [or_byte _ _ h8.1 h8.2 hr.1 hr.2]; exact numb_take xs k (by rw [hxl.out]; omega))
      obtain ⟨q, hq⟩ : ∃ q, q = numb (xs.take k) := ⟨_, rfl⟩
      rw [← hq] at h8 hnt ⊢
      obtain ⟨r, hrr⟩ : ∃ r, r = xs.getD k 0 := ⟨_, rfl⟩
      have hc' : w.cell? (ad.add k) = some (.int .u8 r) := by rw [hc, hrr]
      rw [← hrr] at hr hnt
      clear hc hq hrr
      go_wp2_with fail
      go_round
      case rel => exact ⟨k + 1, by omega, by go_num, by rw [hnt.out]⟩
      case measure => simp [intOf]; omega
    · obtain rfl : k = n := by omega
      go_wp2_with fail
      go_quiet (fail)
      go_wp2_with fail
      go_ret3
      exact ⟨_, rfl, hA1'.out, ⟨⟨_, rfl⟩⟩⟩

/-! #### the reader's num -/
def shortP : List PanicEntry := [{ v := .iface 32 (.int .i64 7), recovered := false }]
theorem num_ok (g : Nat) (A : Option Addr) (c : Nat) (rest : List Int) (m : Nat) (w : World) (hc : w.heap[g]? = some (.cells #[.slice A rest.length c] 67 (0, 0))) (hr : ReadsInt w .u8 A rest.length rest) (hx : Byt rest) (hlc : rest.length ≤ c)
    (hm : m ≤ 8) (h : m ≤ rest.length) :
    Calls Tryd.prog 43 #[.pointer (some ⟨g, 0, none⟩), .int .i64 m] w fun e w' => ∃ (A' : Option Addr) (nd : Nat), e = .returned (.int .u64 (numb (rest.take m))) ∧ w' = (w.drewN nd).setCell ⟨g, 0, none⟩ (.slice A' (rest.length - m) (c - m)) ∧
      (∀ W : World, ReadsInt W .u8 A rest.length rest → ReadsInt W .u8 A' (rest.length - m) (rest.drop m)) := by
  have h1 := blk_cell hc 0
  have hcell : w.cell? ⟨g, 0, none⟩ = some (.slice A rest.length c) := h1.trans rfl
  have hfz := blk_frozen hc 0
  have hG := Aside0.mk (get_all A rest.length c rest (m : Int) w hr hx hlc (by omega) (by omega) (by omega))
  clear h1 hc
  go_enter Tryd.func43, Tryd.ntmps43
  go_wp2_with (go_at_call 42; refine hG.out.mono ?_; rintro e w1 ⟨A', rfl, hA, ⟨nd, rfl⟩⟩; rw [Int.toNat_natCast] at hA ⊢; replace hA := Aside0.mk hA)
  go_ret
  exact ⟨_, _, rfl, rfl, hA.out⟩
theorem num_short (g : Nat) (A : Option Addr) (c n : Nat) (m : Nat) (w : World) (hc : w.heap[g]? = some (.cells #[.slice A n c] 67 (0, 0))) (hm : m ≤ 8) (h : n < m) :
    Calls Tryd.prog 43 #[.pointer (some ⟨g, 0, none⟩), .int .i64 m] w fun e w' => e = .panicked shortP ∧ w' = w := by
  have h1 := blk_cell hc 0
  have hcell : w.cell? ⟨g, 0, none⟩ = some (.slice A n c) := h1.trans rfl
  have hfz := blk_frozen hc 0
  have hG := Aside0.mk (get_short A n c (m : Int) w (by omega) (by omega) (by omega))
  clear h1 hc
  go_enter Tryd.func43, Tryd.ntmps43
  go_wp2_with (go_at_call 42; refine hG.out.mono ?_; rintro e w1 ⟨rfl, rfl⟩)
  exact ⟨rfl, rfl, rfl⟩
end Go.Proofs.YteapmebmgaggcaaDoor.PW

namespace Go.Proofs.YteapmebmgaggcaaDoor.PW
open Go.RowKit Go.Proofs.YteapmebmgaggcaaDoorW.PrintWords Go.Proofs.YteapmebmgaggcaaDoorW.PrintLast Go.Proofs.YteapmebmgaggcaaDoorW.PrintMore
set_option linter.unusedVariables false
set_option linter.unusedSimpArgs false

/-! #### what stays, but the reader's block -/
structure Rd (w w' : World) (g : Nat) : Prop where
  os : w'.os = w.os
  tape : w'.tape = w.tape
  output : w'.output = w.output
  size : w.heap.size ≤ w'.heap.size
  block : ∀ k, k < w.heap.size → k ≠ g → w'.heap[k]? = w.heap[k]?
theorem Rd.refl (w : World) (g : Nat) : Rd w w g := ⟨rfl, rfl, rfl, Nat.le_refl _, fun _ _ _ => rfl⟩
theorem Rd.below {w W W1 : World} {g B : Nat} (h : Rd w W g) (hB : w.heap.size ≤ B) (hb : Below B W W1) : Rd w W1 g :=
  ⟨hb.os.trans h.os, hb.tape.trans h.tape, hb.output.trans h.output, Nat.le_trans h.size hb.size, fun k hk hg => (hb.block k (Nat.lt_of_lt_of_le hk hB)).trans (h.block k hk hg)⟩
theorem Rd.trans {w W W1 : World} {g : Nat} (h : Rd w W g) (k : Rd W W1 g) : Rd w W1 g :=
  ⟨k.os.trans h.os, k.tape.trans h.tape, k.output.trans h.output, Nat.le_trans h.size k.size, fun i hi hg => (k.block i (Nat.lt_of_lt_of_le hi h.size) hg).trans (h.block i hi hg)⟩
theorem Rd.far {w W : World} {g : Nat} (h : Rd w W g) {p : Nat} (hp : w.heap.size ≤ p) (j : Nat) (u : Value) : Rd w (W.setCell ⟨p, j, none⟩ u) g :=
  h.below (Nat.le_refl _) ((Below.refl _ _).setCell hp _)
theorem Rd.set {w W : World} {g : Nat} (h : Rd w W g) (j : Nat) (u : Value) : Rd w (W.setCell ⟨g, j, none⟩ u) g := by
  have hb : Below 0 W (W.setCell ⟨g, j, none⟩ u) := (Below.refl 0 W).setCell (Nat.zero_le _) _
  exact ⟨hb.os.trans h.os, hb.tape.trans h.tape, hb.output.trans h.output, Nat.le_trans h.size hb.size, fun k hk hg => (Below.heap_setCell W ⟨g, j, none⟩ u k hg).trans (h.block k hk hg)⟩
theorem Rd.old {w0 w W : World} {g : Nat} (h : Rd w W g) (hb : Below w0.heap.size w0 w) (hg : w0.heap.size ≤ g) : Below w0.heap.size w0 W :=
  ⟨h.os.trans hb.os, h.tape.trans hb.tape, h.output.trans hb.output, Nat.le_trans hb.size h.size, fun k hk => (h.block k (Nat.lt_of_lt_of_le hk hb.size) (by omega)).trans (hb.block k hk)⟩
theorem Rd.keep {w W : World} {g : Nat} (h : Rd w W g) : KeepBut w W g none := ⟨h.size, fun i hi hg _ => h.block i hi hg⟩
theorem Rd.blk {w W : World} {g k : Nat} {o : Obj} (h : Rd w W g) (hb : w.heap[k]? = some o) (hk : k ≠ g) : W.heap[k]? = some o := (h.block k (blk_lt hb) hk).trans hb
theorem Rd.row {w W : World} {g base t : Nat} {ok : Nat → Prop} {v : Value} {xs : List Int} {cells : Array Value} (h : Rd w W g) (hr : Kd.R (Kd.int .i64) 3 w base ok v xs) (hg : w.heap[g]? = some (.cells cells t (0, 0))) (ht : 3 ≠ t) : Kd.R (Kd.int .i64) 3 W base ok v xs :=
  Kd.R_mono (Kd.R_keep (Kd.R_types hr hg (by intro q hq; simp [Kd.int, Kd.scalar] at hq; subst hq; exact ht)) h.keep (fun k hk => hk.2)) (fun k hk => hk.1)

/-! #### num, either way -/
theorem num_any (g : Nat) (A : Option Addr) (c : Nat) (rest : List Int) (m : Nat) (mi : Int) (hmi : mi = m) (w0 w : World) (hc : w.heap[g]? = some (.cells #[.slice A rest.length c] 67 (0, 0))) (hr : ReadsInt w0 .u8 A rest.length rest) (hb : Below w0.heap.size w0 w)
    (hx : Byt rest) (hlc : rest.length ≤ c) (hm : m ≤ 8) :
    Calls Tryd.prog 43 #[.pointer (some ⟨g, 0, none⟩), .int .i64 mi] w fun e w' =>
      (m ≤ rest.length ∧ ∃ A' : Option Addr, e = .returned (.int .u64 (numb (rest.take m))) ∧ w'.heap[g]? = some (.cells #[.slice A' (rest.drop m).length (c - m)] 67 (0, 0)) ∧ ReadsInt w0 .u8 A' (rest.drop m).length (rest.drop m) ∧ Rd w w' g) ∨
      (rest.length < m ∧ e = .panicked shortP ∧ w' = w) := by
  subst hmi
  rcases Nat.lt_or_ge rest.length m with h | h
  · exact (num_short g A c rest.length m w hc hm h).mono fun e w' ⟨h1, h2⟩ => Or.inr ⟨h, h1, h2⟩
  · refine (num_ok g A c rest m w hc (hr.below hb) hx hlc hm h).mono fun e w' ⟨A', nd, h1, h2, h3⟩ => Or.inl ⟨h, A', h1, ?_, ?_, ?_⟩
    · rw [h2, List.length_drop]
      exact blk_put (blk_drewN hc nd) 0 _ rfl
    · rw [List.length_drop]; exact h3 w0 hr
    · rw [h2]
      exact ((Rd.refl w g).below (Nat.le_refl _) (pw_below_drewN (Below.refl _ _) nd)).set 0 _

/-! #### an answer's bytes -/
def takeN (sz : Nat) : Nat → List Int → Option (List Int × List Int)
  | 0, l => some ([], l)
  | n + 1, l => if sz ≤ l.length then (takeN sz n (l.drop sz)).map fun p => (numb (l.take sz) :: p.1, p.2) else none
def big (d : Int) : Bool := decide (9223372036854775807 < d)
def replyS (l : List Int) : Option (S49 × Bool × List Int) :=
  if 1 ≤ l.length then
    if 2 ≤ (l.drop 1).length then
      (takeN 8 (numb ((l.drop 1).take 2)).toNat ((l.drop 1).drop 2)).bind fun p =>
        if 1 ≤ p.2.length then
          (takeN 1 (numb (p.2.take 1)).toNat (p.2.drop 1)).bind fun q => some (⟨wrap64 (numb (l.take 1)), p.1.map wrap64, q.1.map wrap64⟩, p.1.any big, q.2)
        else none
    else none
  else none
theorem takeN_short {sz r : Nat} {rest : List Int} (h : rest.length < sz) : takeN sz (r + 1) rest = none := by rw [takeN, if_neg (by omega)]
theorem takeN_step {sz r : Nat} {rest : List Int} (h : sz ≤ rest.length) : takeN sz (r + 1) rest = (takeN sz r (rest.drop sz)).map fun p => (numb (rest.take sz) :: p.1, p.2) := by rw [takeN, if_pos h]
theorem numb2_lt {l : List Int} (h : Byt l) (k : Nat) (hk : k ≤ 2) : 0 ≤ numb (l.take k) ∧ numb (l.take k) < 65536 := by
  have h1 := numb_lt h k
  refine ⟨h1.1, Int.lt_of_lt_of_le h1.2 ?_⟩
  have : k = 0 ∨ k = 1 ∨ k = 2 := by omega
  rcases this with rfl | rfl | rfl <;> decide
end Go.Proofs.YteapmebmgaggcaaDoor.PW

namespace Go.Proofs.YteapmebmgaggcaaDoor.PW
open Go.RowKit Go.Proofs.YteapmebmgaggcaaDoorW.PrintWords Go.Proofs.YteapmebmgaggcaaDoorW.PrintLast Go.Proofs.YteapmebmgaggcaaDoorW.PrintMore
set_option linter.unusedVariables false
set_option linter.unusedSimpArgs false

/-- A call in a region, whichever way it ends. -/
theorem goesAny_ {P : Program} {ops : Array Oper} {Q : Exit → Act → World → Prop} {oi : Oper} {N : Option Tmp} {a : Act} {w : World} {K : Act → World → Prop} {f : FuncId} {fn : Func} {asx : Array Operand} {ts : Array TypeId} (hf : P.funcs[f]? = some fn) (hname : (fn.name == "runtime.NumGoroutine") = false) (hb : fn.body.isSome = true) (args : Array Value)
    (hw : Region.wanted oi (yielded ops a.tmps) = true) (hN : oi.dst = N) (hop : oi.op = .call { callee := .value (.func f), args := asx, argTypes := ts }) (hargs : asx.map a.eval = args)
    (h : Calls P f args w fun e w' => (∃ v, e = .returned v ∧ K (a.put N v) w') ∨ (∃ chain, e = .panicked chain ∧ Q (.panic chain) a w')) : if Region.wanted oi (yielded ops a.tmps) = true then Oper.wp P oi a w K Q else K (a.put N undef) w := by
  rw [if_pos hw]
  subst hN
  have he := enters_ hf hname hb args w
  have hrun : (execOp a.eval oi).run P w = .ok (.enter f args) w := by
    unfold execOp
    simp [hop, resolve, Deferred.ofValue, invoke, Act.eval, hargs, he]
  unfold Oper.wp
  rw [hrun, Oper.upon_enter]
  refine h.mono fun e w' h => ?_
  rcases h with ⟨v, rfl, h⟩ | ⟨c, rfl, h⟩
  · exact h
  · exact h
noncomputable def reply_T : Bool × List (List Nat × List Nat) := rtab .any (opsOf Tryd.f36 10)
theorem reply_T10 : rtab .any (opsOf Tryd.f36 10) = reply_T := rfl
theorem reply_B10 : waitsOk reply_T.2 [0, 1, 0, 4, 12, 28, 63, 127, 255] = true := by kernel_rfl
theorem byt_drop' {l : List Int} (h : Byt l) (n : Nat) : Byt (l.drop n) := fun x hx => h x (List.mem_of_mem_drop hx)
theorem info3' : (Tryd.prog.info? 3).map (fun i => (i.zero, i.size, i.bytes)) = some (some (.int .i64 0), 1, 8) := by kernel_rfl
set_option maxHeartbeats 8000000 in
set_option maxRecDepth 100000 in
theorem reply_any (g : Nat) (A : Option Addr) (c : Nat) (l : List Int) (w0 w : World) (hcell : w.heap[g]? = some (.cells #[.slice A l.length c] 67 (0, 0))) (hr0 : ReadsInt w0 .u8 A l.length l) (hb0 : Below w0.heap.size w0 w) (hg0 : w0.heap.size ≤ g) (hx0 : Byt l) (hlc0 : l.length ≤ c) :
    Calls Tryd.prog 36 #[.pointer (some ⟨g, 0, none⟩)] w fun e w' =>
      (∃ (rep : S49) (great : Bool) (rest : List Int) (v1 v2 : Value) (A' : Option Addr) (c' : Nat), replyS l = some (rep, great, rest) ∧ e = .returned (.tuple #[.agg #[.int .i64 rep.f0, v1, v2], .bool great]) ∧
        Kd.R (Kd.int .i64) 3 w' w.heap.size (fun k => some k ≠ v2.ownBlock) v1 rep.f1 ∧ Kd.R (Kd.int .i64) 3 w' w.heap.size (fun k => some k ≠ v1.ownBlock) v2 rep.f2 ∧
        w'.heap[g]? = some (.cells #[.slice A' rest.length c'] 67 (0, 0)) ∧ ReadsInt w0 .u8 A' rest.length rest ∧ Byt rest ∧ rest.length ≤ c' ∧ rest.length < l.length ∧ Rd w w' g) ∨
      (replyS l = none ∧ e = .panicked shortP ∧ Rd w w' g) := by
  obtain ⟨N, hN0⟩ : ∃ N : Nat, numb ((l.drop 1).take 2) = (N : Int) := ⟨(numb ((l.drop 1).take 2)).toNat, by have := (numb2_lt (byt_drop' hx0 1) 2 (by omega)).1; omega⟩
  have hNs : Aside0 (N < 65536) := ⟨by have := (numb2_lt (byt_drop' hx0 1) 2 (by omega)).2; omega⟩
  have hN : Aside0 (numb ((l.drop 1).take 2) = (N : Int)) := ⟨hN0⟩
  obtain ⟨cd, hcd0⟩ : ∃ cd, numb (l.take 1) = cd := ⟨_, rfl⟩
  have hcd := Aside0.mk hcd0
  have H1 : Aside0 (l.length < 1 → replyS l = none) := ⟨fun h => by unfold replyS; rw [if_neg (by omega)]⟩
  have H2 : Aside0 (1 ≤ l.length → (l.drop 1).length < 2 → replyS l = none) := ⟨fun h h2 => by unfold replyS; rw [if_pos h, if_neg (by omega)]⟩
  have HS : Aside0 (1 ≤ l.length → 2 ≤ (l.drop 1).length → replyS l = (takeN 8 N ((l.drop 1).drop 2)).bind fun p =>
        if 1 ≤ p.2.length then
          (takeN 1 (numb (p.2.take 1)).toNat (p.2.drop 1)).bind fun q => some (⟨wrap64 cd, p.1.map wrap64, q.1.map wrap64⟩, p.1.any big, q.2)
        else none) := ⟨fun h h2 => by unfold replyS; rw [if_pos h, if_pos h2, hN0, Int.toNat_natCast, hcd0]⟩
  clear hN0 hcd0
  replace hr0 := Aside0.mk hr0
  replace hb0 := Aside0.mk hb0
  replace hg0 := Aside0.mk hg0
  replace hx0 := Aside0.mk hx0
  replace hlc0 := Aside0.mk hlc0
  have BR := Aside0.mk hcell
  have HK := Aside0.mk (Rd.refl w g)
  clear hcell
  have e1_ : Aside0 ((1 : Int) = ((1 : Nat) : Int)) := ⟨rfl⟩
  have e2_ : Aside0 ((2 : Int) = ((2 : Nat) : Int)) := ⟨rfl⟩
  have e8_ : Aside0 ((8 : Int) = ((8 : Nat) : Int)) := ⟨rfl⟩
  have m1_ : Aside0 (1 ≤ 8) := ⟨by decide⟩
  have m2_ : Aside0 (2 ≤ 8) := ⟨by decide⟩
  have m8_ : Aside0 (8 ≤ 8) := ⟨by decide⟩
  go_enter Tryd.func36, Tryd.ntmps36
  go_wp2_with (first | ((with_reducible refine gate_dst (N := 2) rfl ?_); refine box_event ?hg (N := 2) ?hd (cs := #[.int .i64 0, .slice none 0 0, .slice none 0 0]) (t := 49) ?hr ?_; (case hd => rfl); (case hg => rfl); (case hr => first | (go_simp; done) | (go_simp; rfl)); intro go hgo w1 hbox hb; have n0_ := Aside0.mk (HK.out.below (Nat.le_refl _) hb); have n1_ := Aside0.mk (blk_below BR.out hb); have BO := Aside0.mk hbox; have NG : Aside0 (go ≠ g) := ⟨by rw [hgo]; exact Nat.ne_of_gt (blk_lt BR.out)⟩; have GO : Aside0 (w.heap.size ≤ go) := ⟨by rw [hgo]; exact Nat.le_refl _⟩; clear HK BR; have HK := n0_; have BR := n1_; clear n0_ n1_ hb hbox hgo) | (go_at_call 43; (with_reducible refine (num_any g A c l 1 1 (e1_).out w0 _ BR.out hr0.out (HK.out.old hb0.out hg0.out) hx0.out hlc0.out (m1_).out).mono ?_); rintro e w2 (⟨hm1, A1, rfl, hb1, hr1, hk1⟩ | ⟨hm1, rfl, rfl⟩); rotate_left; (exact ⟨rfl, Or.inr ⟨H1.out hm1, rfl, HK.out⟩⟩); rw [hcd.out]; have n0_ := Aside0.mk (HK.out.trans hk1); have n1_ := Aside0.mk (hk1.blk BO.out NG.out); clear HK BR BO; have HK := n0_; have BO := n1_; have BR := Aside0.mk hb1; replace hr1 := Aside0.mk hr1; replace hm1 := Aside0.mk hm1; clear n0_ n1_ hb1 hk1; have hcz0 : w2.cell? ⟨go, 0, none⟩ = some (.int .i64 0) := (blk_cell BO.out 0).trans rfl; have hfz0 := blk_frozen BO.out 0) | (go_at_call 43; (with_reducible refine (num_any g A1 (c - 1) (l.drop 1) 2 2 (e2_).out w0 _ (blk_far BR.out NG.out.symm _) hr1.out ((HK.out.far GO.out _ _).old hb0.out hg0.out) (byt_drop' hx0.out 1) (by have := hlc0.out; rw [List.length_drop]; omega) (m2_).out).mono ?_); rintro e w3 (⟨hm2, A2, rfl, hb2, hr2, hk2⟩ | ⟨hm2, rfl, rfl⟩); rotate_left; (exact ⟨rfl, Or.inr ⟨H2.out hm1.out hm2, rfl, HK.out.far GO.out _ _⟩⟩); rw [hN.out]; have n0_ := Aside0.mk ((HK.out.far GO.out _ _).trans hk2); have n1_ := Aside0.mk (hk2.blk (blk_put BO.out 0 (.int .i64 (wrap64 cd)) rfl) NG.out); clear HK BR BO hcz0 hfz0; have HK := n0_; have BO := n1_; have BR := Aside0.mk hb2; replace hr2 := Aside0.mk hr2; replace hm2 := Aside0.mk hm2; clear n0_ n1_ hb2 hk2))
  replace HS : Aside0 (replyS l = (takeN 8 N ((l.drop 1).drop 2)).bind fun p =>
        if 1 ≤ p.2.length then
          (takeN 1 (numb (p.2.take 1)).toNat (p.2.drop 1)).bind fun q => some (⟨wrap64 cd, p.1.map wrap64, q.1.map wrap64⟩, p.1.any big, q.2)
        else none) := ⟨HS.out hm1.out hm2.out⟩
  have H3 : Aside0 (takeN 8 N ((l.drop 1).drop 2) = none → replyS l = none) := ⟨fun h => by rw [HS.out, h]; rfl⟩
  clear H1 H2
  go_loopw [3, 11] (fun vg vi wr => ∃ (r : Nat) (ds dw rest : List Int) (A' : Option Addr) (c' : Nat) (v1 : Value), r ≤ N ∧ vi = .int .u64 ((N - r : Nat) : Int) ∧ vg = .bool (ds.any big) ∧ Aside0 (takeN 8 N ((l.drop 1).drop 2) = (takeN 8 r rest).map fun p => (ds ++ p.1, p.2)) ∧ Aside0 (ds.length + r = N) ∧ Aside0 (Byt rest) ∧ Aside0 (rest.length ≤ c') ∧ Aside0 (rest.length < l.length) ∧ Aside0 (ReadsInt w0 .u8 A' rest.length rest) ∧ Aside0 (wr.heap[g]? = some (.cells #[.slice A' rest.length c'] 67 (0, 0))) ∧ Aside0 (wr.heap[go]? = some (.cells #[.int .i64 (wrap64 cd), v1, .slice none 0 0] 49 (0, 0))) ∧ Aside0 (dw = ds.map wrap64) ∧ Aside0 (Kd.R (Kd.int .i64) 3 wr w.heap.size (fun _ => True) v1 dw) ∧ Aside0 (Rd w wr g)) (fun _ i _ => N - (intOf i).toNat)
  case atStart => exact ⟨N, [], [], (l.drop 1).drop 2, A2, c - 1 - 2, .slice none 0 0, Nat.le_refl _, by simp, rfl, ⟨by simp⟩, ⟨by simp⟩, ⟨byt_drop' (byt_drop' hx0.out 1) 2⟩, ⟨by have := hlc0.out; rw [List.length_drop, List.length_drop]; omega⟩, ⟨by have := hm1.out; rw [List.length_drop, List.length_drop]; omega⟩, hr2, BR, BO, ⟨rfl⟩, ⟨Kd.R_nil _ _ _ _ _⟩, HK⟩
  case round =>
    clear BR BO HK
    obtain ⟨r, ds, dw, rest, A', c', v1, hrN, rfl, rfl, HT, HD, hx, hlc, hlr, hr, BR, BO, HW, R1, HK⟩ := hrel
    cases r with
    | succ r =>
      have hlt : decide (((N - (r + 1) : Nat) : Int) < (N : Int)) = true := decide_eq_true (by omega)
      have hu : IntKind.u64.wrap (((N - (r + 1) : Nat) : Int) + 1) = ((N - r : Nat) : Int) := by have := hNs.out; rw [show ((N - (r + 1) : Nat) : Int) + 1 = ((N - r : Nat) : Int) by omega]; simp [IntKind.wrap, IntKind.signed, IntKind.bits]; omega
      obtain ⟨gb, hgb⟩ : ∃ gb, gb = ds.any big := ⟨_, rfl⟩
      rw [← hgb]
      replace hgb := Aside0.mk hgb
      cases gb
      · go_wp2_with (first | (go_at_call 43; (with_reducible refine (num_any g A' c' rest 8 8 (e8_).out w0 _ BR.out hr.out (HK.out.old hb0.out hg0.out) hx.out hlc.out (m8_).out).mono ?_); rintro e w4 (⟨hm8, A3, rfl, hb3, hr3, hk3⟩ | ⟨hm8, rfl, rfl⟩); rotate_left; (exact ⟨rfl, Or.inr ⟨H3.out (by rw [HT.out, takeN_short hm8]; rfl), rfl, HK.out⟩⟩); obtain ⟨d, hd⟩ : ∃ d, d = numb (rest.take 8) := ⟨_, rfl⟩; rw [← hd]; replace hd := Aside0.mk hd; have n0_ := Aside0.mk (HK.out.trans hk3); have n1_ := Aside0.mk (hk3.blk BO.out NG.out); have n2_ := Aside0.mk (hk3.row R1.out BR.out (by decide)); clear HK BR BO R1; have HK := n0_; have BO := n1_; have R1 := n2_; have BR := Aside0.mk hb3; replace hr3 := Aside0.mk hr3; replace hm8 := Aside0.mk hm8; clear n0_ n1_ n2_ hb3 hk3; have hcz1 : w4.cell? ⟨go, 1, none⟩ = some v1 := (blk_cell BO.out 1).trans rfl; obtain ⟨Ao1, co1, eo1⟩ := Kd.R_slice R1.out; subst eo1) | ((with_reducible refine gate_builtin (b := .append) (xs := #[.tmp 21, .tmp 24]) rfl ?_); at_builtin; refine Kd.R_append (Kd.int .i64) (w0 := w4) w.heap.size rfl (.tmp 21) (.tmp 24) 47 3 (.int .i64 0) 8 rfl Tryd.underlying47 info3' rfl (by decide) (by omega) _ dw (wrap64 d) [.int .i64 (wrap64 d)] (fun _ => True) (fun _ => False) rfl rfl ?aP (fun _ hk => hk.elim) ?aF ?aO ?aB ?aS ?aL ?_; (case aP => exact rfl); (case aF => exact fun _ _ => trivial); (case aO => exact R1.out); (case aB => exact Below.refl _ _); (case aS => exact HK.out.size); (case aL => have h1_ := HD.out; have h2_ := hNs.out; rw [HW.out, List.length_map]; omega); intro v5 w5 ho5 hb5 hg5 hat5; obtain ⟨y5, hy5⟩ : ∃ y_ : List Int, y_ = dw ++ [wrap64 d] := ⟨_, rfl⟩; rw [← hy5] at ho5; replace hy5 := Aside0.mk hy5; have n0_ := Aside0.mk (blk_grown BR.out hg5 (Kd.R_ne R1.out BR.out (by decide))); have n1_ := Aside0.mk (blk_grown BO.out hg5 (Kd.R_ne R1.out BO.out (by decide))); have n2_ := Aside0.mk (HK.out.below (Nat.le_refl _) hb5); clear BR BO HK R1 hcz1; have BR := n0_; have BO := n1_; have HK := n2_; have R1 := Aside0.mk ho5; clear n0_ n1_ n2_ ho5 hb5 hg5 hat5; have hcz1 : w5.cell? ⟨go, 1, none⟩ = some _ := (blk_cell BO.out 1).trans rfl; have hfz1 := blk_frozen BO.out 1; obtain ⟨Ao2, co2, eo2⟩ := Kd.R_slice R1.out; subst eo2))
        go_roundw
        case rel => exact ⟨r, ds ++ [d], y5, rest.drop 8, A3, c' - 8, _, by omega, by first | rfl | (rw [hu]) | (simp only [hu]) | skip, by first | (have h_ := hgb.out; simp [big, ← h_]; done) | skip, ⟨by rw [HT.out, takeN_step hm8.out, Option.map_map, ← hd.out]; congr 1; funext p; simp⟩, ⟨by have := HD.out; simp; omega⟩, ⟨byt_drop' hx.out 8⟩, ⟨by have := hlc.out; rw [List.length_drop]; omega⟩, ⟨by have := hlr.out; rw [List.length_drop]; omega⟩, hr3, ⟨blk_far BR.out NG.out.symm _⟩, ⟨blk_put BO.out 1 _ rfl⟩, ⟨by rw [hy5.out, HW.out, List.map_append]; rfl⟩, ⟨Kd.R_mono (Kd.R_far (p := ⟨go, 1, none⟩) (Kd.R_types R1.out BO.out (by decide)) (fun _ hk => hk.2) _) (fun _ _ => trivial)⟩, ⟨HK.out.far GO.out _ _⟩⟩
        case measure => first | (simp only [hu, intOf]; omega) | (simp [intOf]; omega)
      · go_wp2_with (first | (go_at_call 43; (with_reducible refine (num_any g A' c' rest 8 8 (e8_).out w0 _ BR.out hr.out (HK.out.old hb0.out hg0.out) hx.out hlc.out (m8_).out).mono ?_); rintro e w4 (⟨hm8, A3, rfl, hb3, hr3, hk3⟩ | ⟨hm8, rfl, rfl⟩); rotate_left; (exact ⟨rfl, Or.inr ⟨H3.out (by rw [HT.out, takeN_short hm8]; rfl), rfl, HK.out⟩⟩); obtain ⟨d, hd⟩ : ∃ d, d = numb (rest.take 8) := ⟨_, rfl⟩; rw [← hd]; replace hd := Aside0.mk hd; have n0_ := Aside0.mk (HK.out.trans hk3); have n1_ := Aside0.mk (hk3.blk BO.out NG.out); have n2_ := Aside0.mk (hk3.row R1.out BR.out (by decide)); clear HK BR BO R1; have HK := n0_; have BO := n1_; have R1 := n2_; have BR := Aside0.mk hb3; replace hr3 := Aside0.mk hr3; replace hm8 := Aside0.mk hm8; clear n0_ n1_ n2_ hb3 hk3; have hcz1 : w4.cell? ⟨go, 1, none⟩ = some v1 := (blk_cell BO.out 1).trans rfl; obtain ⟨Ao1, co1, eo1⟩ := Kd.R_slice R1.out; subst eo1) | ((with_reducible refine gate_builtin (b := .append) (xs := #[.tmp 21, .tmp 24]) rfl ?_); at_builtin; refine Kd.R_append (Kd.int .i64) (w0 := w4) w.heap.size rfl (.tmp 21) (.tmp 24) 47 3 (.int .i64 0) 8 rfl Tryd.underlying47 info3' rfl (by decide) (by omega) _ dw (wrap64 d) [.int .i64 (wrap64 d)] (fun _ => True) (fun _ => False) rfl rfl ?aP (fun _ hk => hk.elim) ?aF ?aO ?aB ?aS ?aL ?_; (case aP => exact rfl); (case aF => exact fun _ _ => trivial); (case aO => exact R1.out); (case aB => exact Below.refl _ _); (case aS => exact HK.out.size); (case aL => have h1_ := HD.out; have h2_ := hNs.out; rw [HW.out, List.length_map]; omega); intro v5 w5 ho5 hb5 hg5 hat5; obtain ⟨y5, hy5⟩ : ∃ y_ : List Int, y_ = dw ++ [wrap64 d] := ⟨_, rfl⟩; rw [← hy5] at ho5; replace hy5 := Aside0.mk hy5; have n0_ := Aside0.mk (blk_grown BR.out hg5 (Kd.R_ne R1.out BR.out (by decide))); have n1_ := Aside0.mk (blk_grown BO.out hg5 (Kd.R_ne R1.out BO.out (by decide))); have n2_ := Aside0.mk (HK.out.below (Nat.le_refl _) hb5); clear BR BO HK R1 hcz1; have BR := n0_; have BO := n1_; have HK := n2_; have R1 := Aside0.mk ho5; clear n0_ n1_ n2_ ho5 hb5 hg5 hat5; have hcz1 : w5.cell? ⟨go, 1, none⟩ = some _ := (blk_cell BO.out 1).trans rfl; have hfz1 := blk_frozen BO.out 1; obtain ⟨Ao2, co2, eo2⟩ := Kd.R_slice R1.out; subst eo2))
        go_roundw
        case rel => exact ⟨r, ds ++ [d], y5, rest.drop 8, A3, c' - 8, _, by omega, by first | rfl | (rw [hu]) | (simp only [hu]) | skip, by first | (have h_ := hgb.out; simp [big, ← h_]; done) | skip, ⟨by rw [HT.out, takeN_step hm8.out, Option.map_map, ← hd.out]; congr 1; funext p; simp⟩, ⟨by have := HD.out; simp; omega⟩, ⟨byt_drop' hx.out 8⟩, ⟨by have := hlc.out; rw [List.length_drop]; omega⟩, ⟨by have := hlr.out; rw [List.length_drop]; omega⟩, hr3, ⟨blk_far BR.out NG.out.symm _⟩, ⟨blk_put BO.out 1 _ rfl⟩, ⟨by rw [hy5.out, HW.out, List.map_append]; rfl⟩, ⟨Kd.R_mono (Kd.R_far (p := ⟨go, 1, none⟩) (Kd.R_types R1.out BO.out (by decide)) (fun _ hk => hk.2) _) (fun _ _ => trivial)⟩, ⟨HK.out.far GO.out _ _⟩⟩
        case measure => first | (simp only [hu, intOf]; omega) | (simp [intOf]; omega)
    | zero =>
      have hlt : decide (((N - 0 : Nat) : Int) < (N : Int)) = false := decide_eq_false (by omega)
      obtain ⟨rest1, hrest1⟩ : ∃ x_ : List Int, x_ = rest := ⟨_, rfl⟩
      rw [← hrest1] at HT BR hr hx hlc hlr
      clear hrest1
      replace HT : Aside0 (takeN 8 N ((l.drop 1).drop 2) = some (ds, rest1)) := ⟨by rw [HT.out, takeN]; simp⟩
      obtain ⟨M, hM0⟩ : ∃ M : Nat, numb (rest1.take 1) = (M : Int) := ⟨(numb (rest1.take 1)).toNat, by have := (numb2_lt hx.out 1 (by omega)).1; omega⟩
      have hMs : Aside0 (M < 65536) := ⟨by have := (numb2_lt hx.out 1 (by omega)).2; omega⟩
      have H4 : Aside0 (rest1.length < 1 → replyS l = none) := ⟨fun h => by rw [HS.out, HT.out, Option.bind_some, if_neg (by dsimp only; omega)]⟩
      have HS2 : Aside0 (1 ≤ rest1.length → replyS l = (takeN 1 M (rest1.drop 1)).bind fun q => some (⟨wrap64 cd, ds.map wrap64, q.1.map wrap64⟩, ds.any big, q.2)) := ⟨fun h => by rw [HS.out, HT.out, Option.bind_some, if_pos h]; dsimp only; rw [hM0, Int.toNat_natCast]⟩
      have hM := Aside0.mk hM0
      clear hM0 H3
      obtain ⟨gb, hgb⟩ : ∃ gb, gb = ds.any big := ⟨_, rfl⟩
      rw [← hgb]
      rw [← hgb] at HS2
      replace hgb := Aside0.mk hgb
      go_wp2_with (first | (go_at_call 43; (with_reducible refine (num_any g A' c' rest1 1 1 (e1_).out w0 _ BR.out hr.out (HK.out.old hb0.out hg0.out) hx.out hlc.out (m1_).out).mono ?_); rintro e w9 (⟨hm7, A7, rfl, hb7, hr7, hk7⟩ | ⟨hm7, rfl, rfl⟩); rotate_left; (exact ⟨rfl, Or.inr ⟨H4.out hm7, rfl, HK.out⟩⟩); rw [hM.out]; have n0_ := Aside0.mk (HK.out.trans hk7); have n1_ := Aside0.mk (hk7.blk BO.out NG.out); have n2_ := Aside0.mk (hk7.row R1.out BR.out (by decide)); clear HK BR BO R1; have HK := n0_; have BO := n1_; have R1 := n2_; have BR := Aside0.mk hb7; replace hr7 := Aside0.mk hr7; replace hm7 := Aside0.mk hm7; clear n0_ n1_ n2_ hb7 hk7))
      replace HS2 : Aside0 (replyS l = (takeN 1 M (rest1.drop 1)).bind fun q => some (⟨wrap64 cd, ds.map wrap64, q.1.map wrap64⟩, gb, q.2)) := ⟨HS2.out hm7.out⟩
      have H5 : Aside0 (takeN 1 M (rest1.drop 1) = none → replyS l = none) := ⟨fun h => by rw [HS2.out, h]; rfl⟩
      clear H4
      go_loopw [30] (fun vi wr => ∃ (r : Nat) (ids iw rest : List Int) (A' : Option Addr) (c' : Nat) (v2 : Value), r ≤ M ∧ vi = .int .u64 ((M - r : Nat) : Int) ∧ Aside0 (takeN 1 M (rest1.drop 1) = (takeN 1 r rest).map fun p => (ids ++ p.1, p.2)) ∧ Aside0 (ids.length + r = M) ∧ Aside0 (Byt rest) ∧ Aside0 (rest.length ≤ c') ∧ Aside0 (rest.length < l.length) ∧ Aside0 (ReadsInt w0 .u8 A' rest.length rest) ∧ Aside0 (wr.heap[g]? = some (.cells #[.slice A' rest.length c'] 67 (0, 0))) ∧ Aside0 (wr.heap[go]? = some (.cells #[.int .i64 (wrap64 cd), v1, v2] 49 (0, 0))) ∧ Aside0 (iw = ids.map wrap64) ∧ Aside0 (Kd.R (Kd.int .i64) 3 wr w.heap.size (fun k => some k ≠ v2.ownBlock) v1 dw) ∧ Aside0 (Kd.R (Kd.int .i64) 3 wr w.heap.size (fun k => some k ≠ v1.ownBlock) v2 iw) ∧ Aside0 (Rd w wr g)) (fun i _ => M - (intOf i).toNat)
      case atStart => exact ⟨M, [], [], rest1.drop 1, A7, c' - 1, .slice none 0 0, Nat.le_refl _, by simp, ⟨by simp⟩, ⟨by simp⟩, ⟨byt_drop' hx.out 1⟩, ⟨by have := hlc.out; rw [List.length_drop]; omega⟩, ⟨by have := hlr.out; have := hm7.out; rw [List.length_drop]; omega⟩, hr7, BR, BO, ⟨rfl⟩, ⟨Kd.R_mono R1.out (fun _ _ => by simp [Value.ownBlock])⟩, ⟨Kd.R_nil _ _ _ _ _⟩, HK⟩
      case round =>
        clear BR BO HK R1 hlt hr hx hlc hlr
        obtain ⟨r, ids, iw, rest, A', c', v2, hrM, rfl, HT2, HD2, hx, hlc, hlt2, hr, BR, BO, HW2, R1, R2, HK⟩ := hrel
        cases r with
        | succ r =>
          have hlt : decide (((M - (r + 1) : Nat) : Int) < (M : Int)) = true := decide_eq_true (by omega)
          have hu : IntKind.u64.wrap (((M - (r + 1) : Nat) : Int) + 1) = ((M - r : Nat) : Int) := by have := hMs.out; rw [show ((M - (r + 1) : Nat) : Int) + 1 = ((M - r : Nat) : Int) by omega]; simp [IntKind.wrap, IntKind.signed, IntKind.bits]; omega
          try go_wp2
          have n0_ := Aside0.mk (Kd.R_drew R1.out)
          have n1_ := Aside0.mk (Kd.R_drew R2.out)
          have n2_ := Aside0.mk (blk_drew BR.out)
          have n3_ := Aside0.mk (blk_drew BO.out)
          have n4_ := Aside0.mk (HK.out.below (Nat.le_refl _) (below_drew1 (Below.refl _ _)))
          clear R1 R2 BR BO HK
          have R1 := n0_
          have R2 := n1_
          have BR := n2_
          have BO := n3_
          have HK := n4_
          clear n0_ n1_ n2_ n3_ n4_
          refine start_ (n := 9) (S := fun w' => w'.cell? ⟨go, 2, none⟩ = some v2) (ds := [8]) #[false, false, false, false, false, false, false, false, false] (by kernel_rfl) rfl rfl ((blk_cell BO.out 2).trans rfl) (fun hHeld => ?_); refine with_tabW reply_T10 reply_B10 (fun HT_ HW_ => ?_)
          generalize wr.drew = w6 at R1 R2 BR BO HK hHeld ⊢
          refine pure_ (i := 0) (N := some 32) (v := ?_) (a' := ?_) #[true, false, false, false, false, false, false, false, false] rfl rfl (any_of HT_.out (by kernel_rfl)) (fun _ _ _ h => h) (Or.inl ⟨by rfl, ?_⟩) ?_ ?_
          rotate_left
          · intro w'
            go_simp
            with_reducible rfl
          rotate_left
          · simp only [Act.put, List.setIfInBounds_toArray, List.set_cons_zero, List.set_cons_succ, i64_w, i32_w]
            rfl
          refine pure_ (i := 2) (N := some 34) (v := ?_) (a' := ?_) #[true, false, true, false, false, false, false, false, false] rfl rfl (any_of HT_.out (by kernel_rfl)) (fun _ _ _ h => h) (Or.inl ⟨by rfl, ?_⟩) ?_ ?_
          rotate_left
          · intro w'
            go_simp
            with_reducible rfl
          rotate_left
          · simp only [Act.put, List.setIfInBounds_toArray, List.set_cons_zero, List.set_cons_succ, i64_w, i32_w]
            rfl
          refine take_ (i := 1) (N := some 33) (v := ?_) (a' := ?_) #[true, true, true, false, false, false, false, false, false] rfl rfl (take_ofW HT_.out HW_.out (by kernel_rfl)) (fun _ _ _ h => h) (Or.inl ⟨by rfl, ?_⟩) hHeld ?_ ?_
          rotate_left
          · rintro w' s0
            go_simp
            with_reducible rfl
          rotate_left
          · simp only [Act.put, List.setIfInBounds_toArray, List.set_cons_zero, List.set_cons_succ, i64_w, i32_w]
            rfl
          refine one_ (i := 3) (N := some 35) #[true, true, true, true, false, false, false, false, false] rfl rfl (one_of HT_.out (by kernel_rfl)) (by decide) (fun K hK => ?_)
          refine goesAny_ Tryd.func43 (by kernel_rfl) rfl #[.pointer (some ⟨g, 0, none⟩), .int .i64 1] (by rfl) rfl rfl (by (try simp only [List.map_toArray, List.map_cons, List.map_nil]); first | done | rfl) ?_
          with_reducible refine (num_any g A' c' rest 1 1 (e1_).out w0 _ BR.out hr.out (HK.out.old hb0.out hg0.out) hx.out hlc.out (m1_).out).mono ?_
          rintro e w7 (⟨hm9, A3, rfl, hb3, hr3, hk3⟩ | ⟨hm9, rfl, rfl⟩)
          rotate_left
          · exact Or.inr ⟨_, rfl, ⟨rfl, Or.inr ⟨H5.out (by rw [HT2.out, takeN_short hm9]; rfl), rfl, HK.out⟩⟩⟩
          refine Or.inl ⟨_, rfl, ?_⟩
          obtain ⟨d, hd⟩ : ∃ d, d = numb (rest.take 1) := ⟨_, rfl⟩
          rw [← hd]
          replace hd := Aside0.mk hd
          have n0_ := Aside0.mk (HK.out.trans hk3)
          have n1_ := Aside0.mk (hk3.blk BO.out NG.out)
          have n2_ := Aside0.mk (hk3.row R1.out BR.out (by decide))
          have n3_ := Aside0.mk (hk3.row R2.out BR.out (by decide))
          clear HK BR BO R1 R2
          have HK := n0_
          have BO := n1_
          have R1 := n2_
          have R2 := n3_
          have BR := Aside0.mk hb3
          replace hr3 := Aside0.mk hr3
          replace hm9 := Aside0.mk hm9
          clear n0_ n1_ n2_ n3_ hb3 hk3
          refine hK.out _ _ ((blk_cell BO.out 2).trans rfl) (fun hHeld => ?_)
          clear hK K
          refine norm_ (a' := ?_) ?_ ?_
          rotate_left
          · show Act.put _ (some 35) _ = _
            simp only [Act.put, List.setIfInBounds_toArray, List.set_cons_zero, List.set_cons_succ, i64_w, i32_w]
            rfl
          refine pure_ (i := 4) (N := some 36) (v := ?_) (a' := ?_) #[true, true, true, true, true, false, false, false, false] rfl rfl (any_of HT_.out (by kernel_rfl)) (fun _ _ _ h => h) (Or.inl ⟨by rfl, ?_⟩) ?_ ?_
          rotate_left
          · intro w'
            go_simp
            with_reducible rfl
          rotate_left
          · simp only [Act.put, List.setIfInBounds_toArray, List.set_cons_zero, List.set_cons_succ, i64_w, i32_w]
            rfl
          refine one_ (i := 5) (N := some 37) #[true, true, true, true, true, true, false, false, false] rfl rfl (one_of HT_.out (by kernel_rfl)) (by decide) (fun K hK => ?_)
          refine value_ (w1 := ?_) (v := ?_) (by rfl) rfl ?_ ?_
          rotate_left 2
          · go_simp
            constructor
            · rfl
            · rfl
          refine hK.out _ _ ((blk_cell (blk_alloc BO.out _) 2).trans rfl) (fun hHeld => ?_)
          clear hK K
          refine norm_ (a' := ?_) ?_ ?_
          rotate_left
          · show Act.put _ (some 37) _ = _
            simp only [Act.put, List.setIfInBounds_toArray, List.set_cons_zero, List.set_cons_succ, i64_w, i32_w]
            rfl
          refine one_ (i := 6) (N := some 38) #[true, true, true, true, true, true, true, false, false] rfl rfl (one_of HT_.out (by kernel_rfl)) (by decide) (fun K hK => ?_)
          refine Kd.R_append_step (Kd.int .i64) (w0 := w7) w.heap.size (by rfl) (.tmp 33) (.tmp 37) 47 3 (.int .i64 0) 8 rfl Tryd.underlying47 info3' rfl (by decide) (by omega) v2 iw (wrap64 d) [.int .i64 (wrap64 d)] (fun k_ => some k_ ≠ v1.ownBlock) (fun _ => False) rfl rfl ?aP (fun _ hk => hk.elim) ?aF ?aO ?aB ?aS ?aL ?_
          (case aP => exact rfl)
          (case aB => exact Below.refl _ _)
          (case aF => exact (fun k_ hk => Kd.fresh' (Kd.R_lt R1.out) k_ hk))
          (case aO => exact R2.out)
          (case aS => exact HK.out.size)
          (case aL => have h1_ := HD2.out; have h2_ := hMs.out; rw [HW2.out, List.length_map]; omega)
          intro v8 w8 ho hb hg hat
          obtain ⟨y8, hy8⟩ : ∃ y_ : List Int, y_ = iw ++ [wrap64 d] := ⟨_, rfl⟩
          rw [← hy8] at ho
          replace hy8 := Aside0.mk hy8
          have n0_ := Aside0.mk (Kd.R_after (ok := (fun _ => True)) (Kd.R_mono R1.out (fun _ hk => ⟨trivial, hk⟩)) hg hat)
          have n1_ := Aside0.mk (blk_grown BR.out hg (Kd.R_ne R2.out BR.out (by decide)))
          have n2_ := Aside0.mk (blk_grown BO.out hg (Kd.R_ne R2.out BO.out (by decide)))
          have n3_ := Aside0.mk (HK.out.below (Nat.le_refl _) hb)
          clear R1 BR BO HK R2
          have R1 := n0_
          have BR := n1_
          have BO := n2_
          have HK := n3_
          have R2 := Aside0.mk ho
          clear n0_ n1_ n2_ n3_ ho hb hg hat
          obtain ⟨Ao2, co2, eo2⟩ := Kd.R_slice R2.out
          subst eo2
          refine hK.out _ _ ((blk_cell BO.out 2).trans rfl) (fun hHeld => ?_)
          clear hK K
          refine norm_ (a' := ?_) ?_ ?_
          rotate_left
          · show Act.put _ (some 38) _ = _
            simp only [Act.put, List.setIfInBounds_toArray, List.set_cons_zero, List.set_cons_succ, i64_w, i32_w]
            rfl
          refine pure_ (i := 7) (N := some 39) (v := ?_) (a' := ?_) #[true, true, true, true, true, true, true, true, false] rfl rfl (any_of HT_.out (by kernel_rfl)) (fun _ _ _ h => h) (Or.inl ⟨by rfl, ?_⟩) ?_ ?_
          rotate_left
          · intro w'
            go_simp
            with_reducible rfl
          rotate_left
          · simp only [Act.put, List.setIfInBounds_toArray, List.set_cons_zero, List.set_cons_succ, i64_w, i32_w]
            rfl
          refine last_ (i := 8) (N := none) #[true, true, true, true, true, true, true, true, true] rfl rfl (one_of HT_.out (by kernel_rfl)) (by decide) (fun K hK => ?_)
          have hs50 : w8.cell? ⟨go, 2, none⟩ = some v2 := (blk_cell BO.out 2).trans rfl
          have hfs50 := blk_frozen BO.out 2
          refine skip_ (w1 := ?_) (by rfl) rfl ?_ ?_
          rotate_left
          · go_simp
            rfl
          refine hK.out _ _ ?_
          clear hK K
          refine done_ (done_of HT_.out (by kernel_rfl)) ?_
          try go_wp2
          go_roundw
          case rel => exact ⟨r, ids ++ [d], y8, rest.drop 1, A3, c' - 1, _, by omega, by first | rfl | (rw [hu]) | (simp only [hu]) | skip, ⟨by rw [HT2.out, takeN_step hm9.out, Option.map_map, ← hd.out]; congr 1; funext p; simp⟩, ⟨by have := HD2.out; simp; omega⟩, ⟨byt_drop' hx.out 1⟩, ⟨by have := hlc.out; rw [List.length_drop]; omega⟩, ⟨by have := hlt2.out; rw [List.length_drop]; omega⟩, hr3, ⟨blk_far BR.out NG.out.symm _⟩, ⟨blk_put BO.out 2 _ rfl⟩, ⟨by rw [hy8.out, HW2.out, List.map_append]; rfl⟩, ⟨Kd.R_mono (Kd.R_far (p := ⟨go, 2, none⟩) (Kd.R_types R1.out BO.out (by decide)) (fun _ hk => hk.2) _) (fun _ hk => hk.1.2)⟩, ⟨Kd.R_mono (Kd.R_far (p := ⟨go, 2, none⟩) (Kd.R_types R2.out BO.out (by decide)) (fun _ hk => hk.2) _) (fun _ hk => hk.1)⟩, ⟨HK.out.far GO.out _ _⟩⟩
          case measure => first | (simp only [hu, intOf]; omega) | (simp [intOf]; omega)
        | zero =>
          have hlt : decide (((M - 0 : Nat) : Int) < (M : Int)) = false := decide_eq_false (by omega)
          have hcz0 : wr.cell? ⟨go, 0, none⟩ = some (.int .i64 (wrap64 cd)) := (blk_cell BO.out 0).trans rfl
          have hcz1 : wr.cell? ⟨go, 1, none⟩ = some v1 := (blk_cell BO.out 1).trans rfl
          have hcz2 : wr.cell? ⟨go, 2, none⟩ = some v2 := (blk_cell BO.out 2).trans rfl
          have hfz0 := blk_frozen BO.out 0
          have hfz1 := blk_frozen BO.out 1
          have hfz2 := blk_frozen BO.out 2
          obtain ⟨Ao1, co1, eo1⟩ := Kd.R_slice R1.out
          subst eo1
          obtain ⟨Ao2, co2, eo2⟩ := Kd.R_slice R2.out
          subst eo2
          go_wp2
          refine bodyPost_ret (results_ct rfl _ _ go 49 #[.int .i64 (wrap64 cd), .slice Ao1 dw.length co1, .slice Ao2 iw.length co2] (0, 0) _ rfl (by refine blk_put (cs := #[.int .i64 (wrap64 cd), .slice Ao1 dw.length co1, .slice Ao2 iw.length co2]) ?_ 2 _ rfl; refine blk_put (cs := #[.int .i64 (wrap64 cd), .slice Ao1 dw.length co1, .slice Ao2 iw.length co2]) ?_ 1 _ rfl; refine blk_put (cs := #[.int .i64 (wrap64 cd), .slice Ao1 dw.length co1, .slice Ao2 iw.length co2]) ?_ 0 _ rfl; exact BO.out) Tryd.underlying49 rfl (by kernel_rfl)) rfl ?_
          exact Or.inl ⟨⟨wrap64 cd, dw, iw⟩, gb, rest, _, _, A', c', by rw [HS2.out, HT2.out, takeN, HW.out, HW2.out]; simp, rfl, Kd.R_mono (Kd.R_far (p := ⟨go, 2, none⟩) (Kd.R_far (p := ⟨go, 1, none⟩) (Kd.R_far (p := ⟨go, 0, none⟩) (Kd.R_types R1.out BO.out (by decide)) (fun _ hk => hk.2) _) (fun _ hk => hk.2) _) (fun _ hk => hk.2) _) (fun _ hk => hk.1), Kd.R_mono (Kd.R_far (p := ⟨go, 2, none⟩) (Kd.R_far (p := ⟨go, 1, none⟩) (Kd.R_far (p := ⟨go, 0, none⟩) (Kd.R_types R2.out BO.out (by decide)) (fun _ hk => hk.2) _) (fun _ hk => hk.2) _) (fun _ hk => hk.2) _) (fun _ hk => hk.1), blk_far (blk_far (blk_far BR.out NG.out.symm _) NG.out.symm _) NG.out.symm _, hr.out, hx.out, hlc.out, hlt2.out, ((HK.out.far GO.out _ _).far GO.out _ _).far GO.out _ _⟩
end Go.Proofs.YteapmebmgaggcaaDoor.PW

namespace Go.Proofs.YteapmebmgaggcaaDoor.PW
open Go.RowKit Go.Proofs.YteapmebmgaggcaaDoorW.PrintWords Go.Proofs.YteapmebmgaggcaaDoorW.PrintLast Go.Proofs.YteapmebmgaggcaaDoorW.PrintMore
set_option linter.unusedVariables false
set_option linter.unusedSimpArgs false

/-! #### the deferred closure -/
theorem wpS_act {P : Program} {c : Code} {Q : Exit → Act → List Frame → World → Prop} {a a' : Act} {cs : List Frame} {w : World} (h : a = a') (h2 : c.wpS P Q a' cs w) : c.wpS P Q a cs w := h ▸ h2
set_option maxHeartbeats 8000000 in
set_option maxRecDepth 100000 in
theorem catch_panicking (g2 g3 : Nat) (e : Int) (older : List PanicEntry) (w : World) (vo : Value) (x : Int) (h2 : w.heap[g2]? = some (.cells #[vo] 43 (0, 0))) (h3 : w.heap[g3]? = some (.cells #[.int .i64 x] 32 (0, 0))) (hne : g3 ≠ g2) :
    CallsD Tryd.prog 35 #[.pointer (some ⟨g2, 0, none⟩), .pointer (some ⟨g3, 0, none⟩)] (.panicking ({ v := .iface 32 (.int .i64 e), recovered := false } :: older)) w fun e' u' w' =>
      e' = .returned (.tuple #[]) ∧ u' = .panicking ({ v := .iface 32 (.int .i64 e), recovered := true } :: older) ∧ w' = (w.setCell ⟨g2, 0, none⟩ (.slice none 0 0)).setCell ⟨g3, 0, none⟩ (.int .i64 e) := by
  have hc2 : w.cell? ⟨g2, 0, none⟩ = some vo := (blk_cell h2 0).trans rfl
  have hc3 : w.cell? ⟨g3, 0, none⟩ = some (.int .i64 x) := (blk_cell h3 0).trans rfl
  have hz2 := blk_frozen h2 0
  have hz3 := blk_frozen h3 0
  have hta : ∀ W : World, (Instr.typeAssert (.iface 32 (.int .i64 e)) 20 32 true).run Tryd.prog W = .ok (.tuple #[.int .i64 e, .bool true]) W := fun W => by kernel_rfl
  have hbne : g2 ≠ g3 := fun h => hne h.symm
  refine callsD_of_wpS Tryd.func35 rfl fun c₀ cs hu => ?_
  apply wpS_seq
  apply wpS_region
  simp [wpOpsS, go_sem, recoverD, hu, Tryd.ntmps35, Exit.thenS]
  refine wpS_act (a' := ⟨#[.pointer (some ⟨g2, 0, none⟩), .pointer (some ⟨g3, 0, none⟩), .iface 32 (.int .i64 e), undef, undef, .iface 32 (.int .i64 e), undef, undef, undef, undef, undef, undef, undef, undef, undef, undef, undef], []⟩) rfl ?_
  refine wpS_of_wp ?_
  go_wp2
  exact ⟨rfl, _, rfl, _, results_none rfl _ _ _, rfl, rfl, rfl⟩

set_option maxHeartbeats 8000000 in
set_option maxRecDepth 100000 in
theorem catch_idle (g2 g3 : Nat) (w : World) :
    CallsD Tryd.prog 35 #[.pointer (some ⟨g2, 0, none⟩), .pointer (some ⟨g3, 0, none⟩)] .returning w fun e u' w' => e = .returned (.tuple #[]) ∧ u' = .returning ∧ w' = w := by
  refine callsD_of_wpS Tryd.func35 rfl fun c₀ cs hu => ?_
  apply wpS_seq
  apply wpS_region
  simp [wpOpsS, go_sem, recoverD, hu, Tryd.ntmps35, Exit.thenS]
  refine wpS_act (a' := ⟨#[.pointer (some ⟨g2, 0, none⟩), .pointer (some ⟨g3, 0, none⟩), .nilIface, undef, undef, .nilIface, undef, undef, undef, undef, undef, undef, undef, undef, undef, undef, undef], []⟩) rfl ?_
  refine wpS_of_wp ?_
  go_wp2
  cases c₀
  simp_all [bodyPostS, results, Tryd.results35]
end Go.Proofs.YteapmebmgaggcaaDoor.PW

namespace Go.Proofs.YteapmebmgaggcaaDoor.PW
open Go.RowKit Go.Proofs.YteapmebmgaggcaaDoorW.PrintWords Go.Proofs.YteapmebmgaggcaaDoorW.PrintLast Go.Proofs.YteapmebmgaggcaaDoorW.PrintMore
set_option linter.unusedVariables false
set_option linter.unusedSimpArgs false

/-! #### the answers of bytes -/
def drS : Nat → List Int → List S49 → List S49 × Int
  | 0, _, acc => (acc, 0)
  | n + 1, l, acc => if l.length = 0 then (acc, 0) else match replyS l with
    | none => ([], 7)
    | some (rep, great, rest) => if great = true then ([], 8) else drS n rest (acc ++ [rep])
theorem drS_done {l : List Int} {acc : List S49} {n : Nat} (h : l.length = 0) : drS n l acc = (acc, 0) := by cases n <;> simp [drS, h]
theorem drS_none {l : List Int} {acc : List S49} (h : ¬ l.length = 0) (hs : replyS l = none) : drS l.length l acc = ([], 7) := by
  obtain ⟨n, hn⟩ : ∃ n, l.length = n + 1 := ⟨l.length - 1, by omega⟩
  rw [hn, drS, if_neg h, hs]
theorem drS_great {l rest : List Int} {acc : List S49} {rep : S49} (h : ¬ l.length = 0) (hs : replyS l = some (rep, true, rest)) : drS l.length l acc = ([], 8) := by
  obtain ⟨n, hn⟩ : ∃ n, l.length = n + 1 := ⟨l.length - 1, by omega⟩
  rw [hn, drS, if_neg h, hs]
  simp
theorem takeN_rest {sz : Nat} : ∀ (n : Nat) (l : List Int) (p : List Int × List Int), takeN sz n l = some p → p.2.length ≤ l.length := by
  intro n
  induction n with
  | zero => intro l p h; simp [takeN] at h; subst h; exact Nat.le_refl _
  | succ n ih =>
    intro l p h
    rw [takeN] at h
    split at h
    · obtain ⟨q, hq, rfl⟩ := Option.map_eq_some_iff.1 h
      have := ih _ _ hq
      rw [List.length_drop] at this
      dsimp only
      omega
    · cases h
theorem replyS_rest {l rest : List Int} {rep : S49} {great : Bool} (h : replyS l = some (rep, great, rest)) : rest.length < l.length := by
  unfold replyS at h
  split at h
  · split at h
    · obtain ⟨p, hp, h⟩ := Option.bind_eq_some_iff.1 h
      split at h
      · obtain ⟨q, hq, h⟩ := Option.bind_eq_some_iff.1 h
        have h1 := takeN_rest _ _ _ hp
        have h2 := takeN_rest _ _ _ hq
        simp at h
        rw [List.length_drop, List.length_drop] at h1
        rw [List.length_drop] at h2
        obtain ⟨_, _, rfl⟩ := h
        omega
      · cases h
    · cases h
  · cases h
/-- More rounds than bytes: the same. -/
theorem drS_more : ∀ (n m : Nat) (l : List Int) (acc : List S49), l.length ≤ n → l.length ≤ m → drS n l acc = drS m l acc := by
  intro n
  induction n with
  | zero => intro m l acc hn hm; rw [drS_done (by omega), drS_done (by omega)]
  | succ n ih =>
    intro m l acc hn hm
    by_cases h : l.length = 0
    · rw [drS_done h, drS_done h]
    · obtain ⟨m, rfl⟩ : ∃ j, m = j + 1 := ⟨m - 1, by omega⟩
      rw [drS, drS, if_neg h, if_neg h]
      cases hs : replyS l with
      | none => rfl
      | some q =>
        obtain ⟨rep, great, rest⟩ := q
        have := replyS_rest hs
        dsimp only
        split
        · rfl
        · exact ih m rest _ (by omega) (by omega)
theorem drS_step {l rest : List Int} {acc : List S49} {rep : S49} (h : ¬ l.length = 0) (hs : replyS l = some (rep, false, rest)) : drS l.length l acc = drS rest.length rest (acc ++ [rep]) := by
  obtain ⟨n, hn⟩ : ∃ n, l.length = n + 1 := ⟨l.length - 1, by omega⟩
  have := replyS_rest hs
  rw [hn, drS, if_neg h, hs]
  exact drS_more n rest.length rest _ (by omega) (Nat.le_refl _)

theorem results19 (tmps : Array Value) (w : World) (g2 g3 : Nat) (vo : Value) (x : Int) (hp : tmps.getD 2 undef = .pointer (some ⟨g2, 0, none⟩)) (hp' : tmps.getD 3 undef = .pointer (some ⟨g3, 0, none⟩))
    (h2 : w.heap[g2]? = some (.cells #[vo] 43 (0, 0))) (h3 : w.heap[g3]? = some (.cells #[.int .i64 x] 32 (0, 0))) : (results Tryd.f19 tmps).run Tryd.prog w = .ok (.tuple #[vo, .int .i64 x]) w := by
  have hc2 : w.cell? ⟨g2, 0, none⟩ = some vo := (blk_cell h2 0).trans rfl
  have hc3 : w.cell? ⟨g3, 0, none⟩ = some (.int .i64 x) := (blk_cell h3 0).trans rfl
  have q2 : tmps[2]?.getD undef = .pointer (some ⟨g2, 0, none⟩) := by simpa using hp
  have q3 : tmps[3]?.getD undef = .pointer (some ⟨g3, 0, none⟩) := by simpa using hp'
  simp [results, Tryd.results19, q2, q3, asAddr, hc2, hc3, go_sem]
theorem Rd.rowK {w W : World} {g base : Nat} {ok : Nat → Prop} {v : Value} {xs : List S49} {cells : Array Value} (h : Rd w W g) (hr : Kd.R k49 49 w base ok v xs) (hg : w.heap[g]? = some (.cells cells 67 (0, 0))) : Kd.R k49 49 W base ok v xs :=
  Kd.R_mono (Kd.R_keep (Kd.R_types hr hg (by decide)) h.keep (fun k hk => hk.2)) (fun k hk => hk.1)

set_option maxHeartbeats 8000000 in
set_option maxRecDepth 100000 in
theorem decodeReplies_any (A : Option Addr) (c : Nat) (l : List Int) (w : World) (hr0 : ReadsInt w .u8 A l.length l) (hx0 : Byt l) (hlc0 : l.length ≤ c) (hsz : l.length < 1000000000) :
    Calls Tryd.prog 19 #[.slice A l.length c] w fun e w' => ∃ (vo : Value) (out : List S49) (cd : Int), e = .returned (.tuple #[vo, .int .i64 cd]) ∧ (out, cd) = drS l.length l [] ∧ Kd.R k49 49 w' w.heap.size (fun _ => True) vo out ∧ Below w.heap.size w w' := by
  have hmf : ∀ (fn : Fn) (first cap : Array Value) (W : World), (Instr.makeFunc fn first cap).run Tryd.prog W = .ok (.func fn first cap) W := fun _ _ _ _ => rfl
  replace hr0 := Aside0.mk hr0
  replace hx0 := Aside0.mk hx0
  replace hlc0 := Aside0.mk hlc0
  replace hsz := Aside0.mk hsz
  have HB := Aside0.mk (Below.refl w.heap.size w)
  go_enter_defers Tryd.func19, Tryd.ntmps19
  go_wp2_with (first | ((with_reducible refine gate_dst (N := 2) rfl ?_); (try (refine gate_guard (by rfl) ?_; dsimp only)); refine box_event ?hg (N := 2) ?hd (cs := #[.slice none 0 0]) (t := 43) ?hr ?_; (case hd => rfl); (case hg => rfl); (case hr => first | (go_simp; done) | (go_simp; rfl)); intro g2 hg2 w1 hbox hb; have B2 := Aside0.mk hbox; have G2 : Aside0 (w.heap.size ≤ g2) := ⟨by rw [hg2]; exact Nat.le_refl _⟩; have n0_ := Aside0.mk (below_step HB.out hb); clear HB; have HB := n0_; clear n0_ hb hbox hg2) | ((with_reducible refine gate_dst (N := 3) rfl ?_); (try (refine gate_guard (by rfl) ?_; dsimp only)); refine box_event ?hg (N := 3) ?hd (cs := #[.int .i64 0]) (t := 32) ?hr ?_; (case hd => rfl); (case hg => rfl); (case hr => first | (go_simp; done) | (go_simp; rfl)); intro g3 hg3 w2 hbox hb; have n1_ := Aside0.mk (blk_below B2.out hb); have N32 : Aside0 (g3 ≠ g2) := ⟨by rw [hg3]; exact Nat.ne_of_gt (blk_lt B2.out)⟩; have G3 : Aside0 (w.heap.size ≤ g3) := ⟨by rw [hg3]; exact HB.out.size⟩; have B3 := Aside0.mk hbox; have n0_ := Aside0.mk (below_step HB.out hb); clear HB B2; have HB := n0_; have B2 := n1_; clear n0_ n1_ hb hbox hg3) | ((with_reducible refine gate_dst (N := 10) rfl ?_); (try (refine gate_guard (by rfl) ?_; dsimp only)); refine box_event ?hg (N := 10) ?hd (cs := #[.slice A l.length c]) (t := 67) ?hr ?_; (case hd => rfl); (case hg => rfl); (case hr => first | (go_simp; done) | (go_simp; rfl)); intro g hg w3 hbox hb; have n1_ := Aside0.mk (blk_below B2.out hb); have n2_ := Aside0.mk (blk_below B3.out hb); have Ng2 : Aside0 (g ≠ g2) := ⟨by rw [hg]; exact Nat.ne_of_gt (blk_lt B2.out)⟩; have Ng3 : Aside0 (g ≠ g3) := ⟨by rw [hg]; exact Nat.ne_of_gt (blk_lt B3.out)⟩; have Gg : Aside0 (w.heap.size ≤ g) := ⟨by rw [hg]; exact HB.out.size⟩; have BR := Aside0.mk hbox; have n0_ := Aside0.mk (below_step HB.out hb); clear HB B2 B3; have HB := n0_; have B2 := n1_; have B3 := n2_; clear n0_ n1_ n2_ hb hbox hg))
  go_loopg [6] l.length (fun kq v6 wr => ∃ (rest : List Int) (acc : List S49) (A' : Option Addr) (c' : Nat) (vo : Value), Aside0 (rest.length ≤ kq) ∧ Aside0 (drS rest.length rest acc = drS l.length l []) ∧ Aside0 (acc.length + rest.length ≤ l.length) ∧ Aside0 (Byt rest) ∧ Aside0 (rest.length ≤ c') ∧ Aside0 (ReadsInt w .u8 A' rest.length rest) ∧ Aside0 (wr.heap[g]? = some (.cells #[.slice A' rest.length c'] 67 (0, 0))) ∧ Aside0 (wr.heap[g2]? = some (.cells #[vo] 43 (0, 0))) ∧ Aside0 (wr.heap[g3]? = some (.cells #[.int .i64 0] 32 (0, 0))) ∧ Aside0 (Kd.R k49 49 wr w.heap.size (fun _ => True) vo acc) ∧ Aside0 (Below w.heap.size w wr))
  case atStart => exact ⟨l, [], A, c, .slice none 0 0, ⟨Nat.le_refl _⟩, ⟨rfl⟩, ⟨by simp⟩, hx0, hlc0, hr0, BR, B2, B3, ⟨Kd.R_nil _ _ _ _ _⟩, HB⟩
  case round =>
    clear BR B2 B3 HB
    obtain ⟨rest, acc, A', c', vo, HQ, HD, HL, hx, hlc, hr, BR, B2, B3, RO, HB⟩ := hrel
    have hcr : wr.cell? ⟨g, 0, none⟩ = some (.slice A' rest.length c') := (blk_cell BR.out 0).trans rfl
    by_cases h0 : rest.length = 0
    · have hgt : decide ((0 : Int) < (rest.length : Int)) = false := decide_eq_false (by omega)
      have hgt2 : decide (0 < rest.length) = false := decide_eq_false (by omega)
      have hc2 : wr.cell? ⟨g2, 0, none⟩ = some vo := (blk_cell B2.out 0).trans rfl
      have hc3 : wr.cell? ⟨g3, 0, none⟩ = some (.int .i64 0) := (blk_cell B3.out 0).trans rfl
      have hf2 := blk_frozen B2.out 0
      have hf3 := blk_frozen B3.out 0
      have hn1 := N32.out
      have hn2 := N32.out.symm
      obtain ⟨Ao, co, eo⟩ := Kd.R_slice RO.out
      subst eo
      replace h0 := Aside0.mk h0
      go_wp2
      refine leaves_cons (f := 35) (args := #[.pointer (some ⟨g2, 0, none⟩), .pointer (some ⟨g3, 0, none⟩)]) (by simp) (by simp [go_sem]) ?_
      refine (catch_idle g2 g3 _).mono ?_
      rintro e_ u_ w_ ⟨rfl, rfl, rfl⟩
      exact ⟨_, results19 _ _ g2 g3 (.slice Ao acc.length co) 0 rfl rfl (blk_far (blk_put B2.out 0 _ rfl) N32.out.symm _) (blk_put (blk_far B3.out N32.out _) 0 _ rfl), _, _, _, rfl, by rw [← HD.out, drS_done h0.out],
        Kd.R_mono (Kd.R_far (p := ⟨g3, 0, none⟩) (Kd.R_far (p := ⟨g2, 0, none⟩) (Kd.R_types (Kd.R_types RO.out B2.out (by decide)) B3.out (by decide)) (fun _ hk => hk.1.2) _) (fun _ hk => hk.2) _) (fun _ _ => trivial), below_set (below_set HB.out G2.out) G3.out⟩
    · have hgt : decide ((0 : Int) < (rest.length : Int)) = true := decide_eq_true (by omega)
      have hgt2 : decide (0 < rest.length) = true := decide_eq_true (by omega)
      cases gk with
      | zero => exact absurd HQ.out (by omega)
      | succ kq =>
        obtain ⟨Ao, co, eo⟩ := Kd.R_slice RO.out
        subst eo
        go_wp2_with (first | (go_at_call 36; ((with_reducible refine (reply_any g A' c' rest w _ BR.out hr.out HB.out Gg.out hx.out hlc.out).mono ?_); rintro e w5 (⟨rep, great, rest', v1, v2, A2, c2, hs, rfl, hR1, hR2, hbr, hr', hx', hlc', hlt', hk⟩ | ⟨hs, rfl, hk⟩); rotate_left; (refine leaves_cons (f := 35) (args := #[.pointer (some ⟨g2, 0, none⟩), .pointer (some ⟨g3, 0, none⟩)]) (by simp) (by simp [go_sem]) ?_; refine (catch_panicking g2 g3 7 [] _ _ 0 (hk.blk B2.out Ng2.out.symm) (hk.blk B3.out Ng3.out.symm) N32.out).mono ?_; rintro e_ u_ w_ ⟨rfl, rfl, rfl⟩; exact ⟨_, results19 _ _ g2 g3 (.slice none 0 0) 7 rfl rfl (blk_far (blk_put (hk.blk B2.out Ng2.out.symm) 0 _ rfl) N32.out.symm _) (blk_put (blk_far (hk.blk B3.out Ng3.out.symm) N32.out _) 0 _ rfl), _, _, _, rfl, by rw [← HD.out, drS_none h0 hs], Kd.R_nil _ _ _ _ _, below_set (below_set (hk.old HB.out Gg.out) G2.out) G3.out⟩); have n0_ := Aside0.mk (hk.blk B2.out Ng2.out.symm); have n1_ := Aside0.mk (hk.blk B3.out Ng3.out.symm); have n2_ := Aside0.mk (hk.old HB.out Gg.out); have n3_ := Aside0.mk (Rd.rowK hk RO.out BR.out); have n4_ := Aside0.mk (Kd.R_lower (Kd.R_new' hR1 (Kd.R_lt RO.out)) HB.out.size); have n5_ := Aside0.mk (Kd.R_lower (Kd.R_new' hR2 (Kd.R_lt RO.out)) HB.out.size); clear B2 B3 HB RO BR hk hR1 hR2; have B2 := n0_; have B3 := n1_; have HB := n2_; have RO := n3_; have R1 := n4_; have R2 := n5_; have BR := Aside0.mk hbr; replace hs := Aside0.mk hs; replace hr' := Aside0.mk hr'; replace hx' := Aside0.mk hx'; replace hlc' := Aside0.mk hlc'; replace hlt' := Aside0.mk hlt'; clear n0_ n1_ n2_ n3_ n4_ n5_ hbr; obtain ⟨Ao1, co1, eo1⟩ := Kd.R_slice R1.out; subst eo1; obtain ⟨Ao2, co2, eo2⟩ := Kd.R_slice R2.out; subst eo2; cases great)) | ((with_reducible refine gate_dst (N := 5) rfl ?_); (try (refine gate_guard (by rfl) ?_; dsimp only)); refine box_event ?hg (N := 5) ?hd (cs := #[.int .i64 0, .slice none 0 0, .slice none 0 0]) (t := 49) ?hr ?_; (case hd => rfl); (case hg => rfl); (case hr => first | (go_simp; done) | (go_simp; rfl)); intro g5 hg5 w6 hbox hb; have n0_ := Aside0.mk (blk_below B2.out hb); have n1_ := Aside0.mk (blk_below B3.out hb); have n2_ := Aside0.mk (blk_below BR.out hb); have n3_ := Aside0.mk (Kd.R_below (Kd.R_mono (Kd.R_bound RO.out) (fun k_ hk => (show k_ ≠ g5 from by have := hk.2.2.1; omega))) hb); have n4_ := Aside0.mk (Kd.R_below R1.out hb); have n5_ := Aside0.mk (Kd.R_below R2.out hb); have N52 : Aside0 (g5 ≠ g2) := ⟨by rw [hg5]; exact Nat.ne_of_gt (blk_lt B2.out)⟩; have N53 : Aside0 (g5 ≠ g3) := ⟨by rw [hg5]; exact Nat.ne_of_gt (blk_lt B3.out)⟩; have N5g : Aside0 (g5 ≠ g) := ⟨by rw [hg5]; exact Nat.ne_of_gt (blk_lt BR.out)⟩; have G5 : Aside0 (w.heap.size ≤ g5) := ⟨by rw [hg5]; exact HB.out.size⟩; have B5 := Aside0.mk hbox; have n6_ := Aside0.mk (below_step HB.out hb); clear B2 B3 BR RO R1 R2 HB; have B2 := n0_; have B3 := n1_; have BR := n2_; have RO := n3_; have R1 := n4_; have R2 := n5_; have HB := n6_; clear n0_ n1_ n2_ n3_ n4_ n5_ n6_ hb hbox hg5; have hcz0 : w6.cell? ⟨g5, 0, none⟩ = some (.int .i64 0) := (blk_cell B5.out 0).trans rfl; have hcz1 : w6.cell? ⟨g5, 1, none⟩ = some (.slice none 0 0) := (blk_cell B5.out 1).trans rfl; have hcz2 : w6.cell? ⟨g5, 2, none⟩ = some (.slice none 0 0) := (blk_cell B5.out 2).trans rfl; have hfz0 := blk_frozen B5.out 0; have hfz1 := blk_frozen B5.out 1; have hfz2 := blk_frozen B5.out 2; have hc2 : w6.cell? ⟨g2, 0, none⟩ = some (.slice Ao acc.length co) := (blk_cell B2.out 0).trans rfl; have hf2 := blk_frozen B2.out 0; have hnb1 := N52.out; have hnb2 := N52.out.symm) | ((with_reducible refine gate_store (t := 49) (p := 5) rfl ?_); refine store_event (t := 49) (p := 5) (v := ?vo_w7) (w1 := (((w6.setCell ⟨g5, 0, none⟩ (.int .i64 rep.f0)).setCell ⟨g5, 1, none⟩ (.slice Ao1 rep.f1.length co1)).setCell ⟨g5, 2, none⟩ (.slice Ao2 rep.f2.length co2))) ?hg ?ho ?hn ?hr ?_; (case ho => rfl); (case hg => rfl); (case hn => rfl); (case hr => first | (go_simp; done) | (go_simp; rfl)); intro w7 hw; have n0_ : Aside0 (w7.heap[g2]? = some (.cells #[(.slice Ao acc.length co)] 43 (0, 0))) := ⟨by rw [hw]; exact (blk_far (blk_far (blk_far B2.out N52.out.symm _) N52.out.symm _) N52.out.symm _)⟩; have n1_ : Aside0 (w7.heap[g3]? = some (.cells #[.int .i64 0] 32 (0, 0))) := ⟨by rw [hw]; exact (blk_far (blk_far (blk_far B3.out N53.out.symm _) N53.out.symm _) N53.out.symm _)⟩; have n2_ : Aside0 (w7.heap[g]? = some (.cells #[.slice A2 rest'.length c2] 67 (0, 0))) := ⟨by rw [hw]; exact (blk_far (blk_far (blk_far BR.out N5g.out.symm _) N5g.out.symm _) N5g.out.symm _)⟩; have n3_ : Aside0 (Kd.R k49 49 w7 w.heap.size (fun _ => True) (.slice Ao acc.length co) acc) := ⟨by rw [hw]; exact Kd.R_mono (Kd.R_far (p := ⟨g5, 2, none⟩) (Kd.R_far (p := ⟨g5, 1, none⟩) (Kd.R_far (p := ⟨g5, 0, none⟩) RO.out (fun _ hk => hk) _) (fun _ hk => hk) _) (fun _ hk => hk) _) (fun _ _ => trivial)⟩; have n4_ : Aside0 (Kd.R (Kd.int .i64) 3 w7 w.heap.size (fun k_ => some k_ ≠ (Value.slice Ao acc.length co).ownBlock) (.slice Ao1 rep.f1.length co1) rep.f1) := ⟨by rw [hw]; exact Kd.R_mono (Kd.R_far (p := ⟨g5, 2, none⟩) (Kd.R_far (p := ⟨g5, 1, none⟩) (Kd.R_far (p := ⟨g5, 0, none⟩) (Kd.R_types R1.out B5.out (by decide)) (fun _ hk => hk.2) _) (fun _ hk => hk.2) _) (fun _ hk => hk.2) _) (fun _ hk => hk.1.2)⟩; have n5_ : Aside0 (Kd.R (Kd.int .i64) 3 w7 w.heap.size (fun k_ => some k_ ≠ (Value.slice Ao acc.length co).ownBlock) (.slice Ao2 rep.f2.length co2) rep.f2) := ⟨by rw [hw]; exact Kd.R_mono (Kd.R_far (p := ⟨g5, 2, none⟩) (Kd.R_far (p := ⟨g5, 1, none⟩) (Kd.R_far (p := ⟨g5, 0, none⟩) (Kd.R_types R2.out B5.out (by decide)) (fun _ hk => hk.2) _) (fun _ hk => hk.2) _) (fun _ hk => hk.2) _) (fun _ hk => hk.1.2)⟩; have n6_ : Aside0 (Below w.heap.size w w7) := ⟨by rw [hw]; exact (below_set (below_set (below_set HB.out G5.out) G5.out) G5.out)⟩; have n7_ : Aside0 (w7.heap[g5]? = some (.cells #[.int .i64 rep.f0, .slice Ao1 rep.f1.length co1, .slice Ao2 rep.f2.length co2] 49 (0, 0))) := ⟨by rw [hw]; exact blk_put (blk_put (blk_put B5.out 0 _ rfl) 1 _ rfl) 2 _ rfl⟩; clear B2 B3 BR RO R1 R2 HB B5 hw hcz0 hcz1 hcz2 hfz0 hfz1 hfz2 hc2 hf2; have B2 := n0_; have B3 := n1_; have BR := n2_; have RO := n3_; have R1 := n4_; have R2 := n5_; have HB := n6_; have B5 := n7_; clear n0_ n1_ n2_ n3_ n4_ n5_ n6_ n7_; have hcz0 : w7.cell? ⟨g5, 0, none⟩ = some (.int .i64 rep.f0) := (blk_cell B5.out 0).trans rfl; have hcz1 : w7.cell? ⟨g5, 1, none⟩ = some (.slice Ao1 rep.f1.length co1) := (blk_cell B5.out 1).trans rfl; have hcz2 : w7.cell? ⟨g5, 2, none⟩ = some (.slice Ao2 rep.f2.length co2) := (blk_cell B5.out 2).trans rfl; have hc2 : w7.cell? ⟨g2, 0, none⟩ = some (.slice Ao acc.length co) := (blk_cell B2.out 0).trans rfl; have hf2 := blk_frozen B2.out 0) | ((with_reducible refine gate_builtin (b := .append) (xs := #[.tmp 24, .tmp 26]) rfl ?_); at_builtin; refine Kd.R_append k49 (w0 := w) w.heap.size rfl (.tmp 24) (.tmp 26) 43 49 (.agg #[.int .i64 0, .slice none 0 0, .slice none 0 0]) 56 rfl Tryd.underlying43 info49 rfl (by decide) (by omega) (.slice Ao acc.length co) acc rep [.int .i64 rep.f0, .slice Ao1 rep.f1.length co1, .slice Ao2 rep.f2.length co2] (fun _ => True) (fun k_ => some k_ ≠ (Value.slice Ao acc.length co).ownBlock) rfl rfl ?aP (fun _ hk => ⟨trivial, hk⟩) (fun _ _ => trivial) ?aO ?aB ?aS ?aL ?_; (case aP => exact k49_mkM _ _ _ rep R1.out R2.out); (case aO => exact RO.out); (case aB => exact HB.out); (case aS => exact HB.out.size); (case aL => have h1_ := HL.out; have h2_ := hsz.out; omega); intro v8 w8 ho8 hb8 hg8 hat8; obtain ⟨y8, hy8⟩ : ∃ y_ : List S49, y_ = acc ++ [rep] := ⟨_, rfl⟩; rw [← hy8] at ho8; replace hy8 := Aside0.mk hy8; have n0_ := Aside0.mk (blk_grown B2.out hg8 (Kd.R_ne RO.out B2.out (by decide))); have n1_ := Aside0.mk (blk_grown B3.out hg8 (Kd.R_ne RO.out B3.out (by decide))); have n2_ := Aside0.mk (blk_grown BR.out hg8 (Kd.R_ne RO.out BR.out (by decide))); clear B2 B3 BR RO HB hc2 hf2 hcz0 hcz1 hcz2; have B2 := n0_; have B3 := n1_; have BR := n2_; have RO := Aside0.mk ho8; have HB := Aside0.mk hb8; clear n0_ n1_ n2_ ho8 hb8 hg8 hat8; obtain ⟨Ao8, co8, eo8⟩ := Kd.R_slice RO.out; subst eo8; have hc2 : w8.cell? ⟨g2, 0, none⟩ = some (.slice Ao acc.length co) := (blk_cell B2.out 0).trans rfl; have hf2 := blk_frozen B2.out 0))
        · go_roundg kq
          case measure => omega
          case rel => exact ⟨rest', y8, A2, c2, .slice Ao8 y8.length co8, ⟨by have h1_ := HQ.out; have h2_ := hlt'.out; omega⟩, ⟨by rw [← HD.out, drS_step h0 hs.out, hy8.out]⟩, ⟨by have h1_ := HL.out; have h2_ := hlt'.out; rw [hy8.out]; simp; omega⟩, hx', hlc', hr', ⟨blk_far BR.out Ng2.out _⟩, ⟨blk_put B2.out 0 _ rfl⟩, ⟨blk_far B3.out N32.out _⟩, ⟨Kd.R_mono (Kd.R_far (p := ⟨g2, 0, none⟩) (Kd.R_types RO.out B2.out (by decide)) (fun _ hk => hk.2) _) (fun _ _ => trivial)⟩, ⟨below_set HB.out G2.out⟩⟩
        · (refine leaves_cons (f := 35) (args := #[.pointer (some ⟨g2, 0, none⟩), .pointer (some ⟨g3, 0, none⟩)]) (by simp) (by simp [go_sem]) ?_; refine (catch_panicking g2 g3 8 [] _ _ 0 (B2.out) (B3.out) N32.out).mono ?_; rintro e_ u_ w_ ⟨rfl, rfl, rfl⟩; exact ⟨_, results19 _ _ g2 g3 (.slice none 0 0) 8 rfl rfl (blk_far (blk_put (B2.out) 0 _ rfl) N32.out.symm _) (blk_put (blk_far (B3.out) N32.out _) 0 _ rfl), _, _, _, rfl, by rw [← HD.out, drS_great h0 hs.out], Kd.R_nil _ _ _ _ _, below_set (below_set (HB.out) G2.out) G3.out⟩)
end Go.Proofs.YteapmebmgaggcaaDoor.PW

namespace Go.Proofs.YteapmebmgaggcaaDoor.PW
open Go.RowKit Go.Proofs.YteapmebmgaggcaaDoorW.PrintWords Go.Proofs.YteapmebmgaggcaaDoorW.PrintLast Go.Proofs.YteapmebmgaggcaaDoorW.PrintMore
attribute [local go_sem] max2_int min2_int max_two min_two max_three min_three max_four min_four   -- for this text's walks alone
set_option linter.unusedVariables false
set_option linter.unusedSimpArgs false

/-! #### DecodeReplies, as the laws' walks ask for it -/
def wire_DecodeReplies.f (l0 : List Int) : Option ((List (S49)) × Int) := if bytB l0 = true ∧ l0.length < 1000000000 then some (drS l0.length l0 []) else none
theorem wire_DecodeReplies.calls (A0 : Option Addr) (c0 : Nat) (l0 : List Int) (r1 : List (S49)) (r2 : Int) (w : World) (hr0 : Kd.C (Kd.int .u8) w A0 l0.length l0) (hc0 : l0.length ≤ c0) (h : wire_DecodeReplies.f l0 = some (r1, r2)) :
    Calls Tryd.prog 19 #[.slice A0 l0.length c0] w fun e w' => ∃ v0_ : Value, e = .returned (.tuple #[v0_, .int .i64 r2]) ∧ Kd.R k49 49 w' w.heap.size (fun _ => True) v0_ r1 ∧ Below w.heap.size w w' := by
  unfold wire_DecodeReplies.f at h
  split at h
  · rename_i hh
    have h1 := Option.some.inj h
    exact (decodeReplies_any A0 c0 l0 w (reads8 hr0) (bytB_iff.1 hh.1) hc0 hh.2).mono fun e w' ⟨vo, out, cd, h2, h3, h4, h5⟩ => by
      rw [h1] at h3
      injection h3 with h6 h7
      subst h6
      subst h7
      exact ⟨vo, h2, h4, h5⟩
  · cases h

end Go.Proofs.YteapmebmgaggcaaDoor.PW
