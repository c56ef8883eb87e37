import Derived.Test.YteapmebmgaggcaaDoorVa
import Derived.Test.YteapmebmgaggcaaDoorWe
import Derived.Test.YteapmebmgaggcaaDoorOc
namespace Go.Proofs.YteapmebmgaggcaaDoor.PW
open Go.RowKit Go.Proofs.YteapmebmgaggcaaDoorW.PrintWords Go.Proofs.YteapmebmgaggcaaDoorW.PrintLast Go.Proofs.YteapmebmgaggcaaDoorW.PrintMore
set_option linter.unusedVariables false
set_option linter.unusedSimpArgs false

def bytB (xs : List Int) : Bool := xs.all fun x => decide (0 ≤ x) && decide (x < 256)
theorem bytB_iff {xs : List Int} : bytB xs = true ↔ Byt xs := by
  unfold bytB Byt
  rw [List.all_eq_true]
  constructor
  · intro h x hx
    have := h x hx
    simpa using this
  · intro h x hx
    have := h x hx
    simpa using this
theorem needs_now {w W : World} (h : Aside0 (NeedsOk w)) (hb : Below w.heap.size w W) : NeedsOk W := h.out.below hb h.out.1
theorem reads8 {w : World} {A : Option Addr} {xs : List Int} (h : Kd.C (Kd.int .u8) w A xs.length xs) : ReadsInt w .u8 A xs.length xs := Kd.reads_of_C (d := (0 : Int)) h
theorem c8 {w : World} {A : Option Addr} {n : Nat} {xs : List Int} (h : ReadsInt w .u8 A n xs) : Kd.C (Kd.int .u8) w A n xs := Kd.C_of_reads (d := (0 : Int)) h
theorem r8 {w : World} {base : Nat} {v : Value} {xs : List Int} (h : w.ownsRow base 5 1 v xs.length (nums .u8 xs)) : Kd.R (Kd.int .u8) 5 w base (fun _ => True) v xs := Kd.R_of_own h (fun _ _ => trivial)

/-! #### the setups -/
def wire_Setup.f (a0_0 : Int) (a0_1 : Int) (a0_2 : Int) (a0_3 : Int) (a0_4 : Int) : Option (Bool) := some (okS ⟨a0_0, a0_1, a0_2, a0_3, a0_4⟩)
theorem wire_Setup.calls (a0_0 : Int) (a0_1 : Int) (a0_2 : Int) (a0_3 : Int) (a0_4 : Int) (r : Bool) (w : World) (h : wire_Setup.f a0_0 a0_1 a0_2 a0_3 a0_4 = some r) :
    Calls Tryd.prog 11 #[.agg #[.int .i64 a0_0, .int .i64 a0_1, .int .i64 a0_2, .int .i64 a0_3, .int .i64 a0_4]] w fun e w' => e = .returned (.bool r) ∧ Below w.heap.size w w' := by
  obtain rfl := Option.some.inj h
  exact wsetup_any ⟨a0_0, a0_1, a0_2, a0_3, a0_4⟩ w
def ringroadref26_Setup.f (a0_0 : Int) (a0_1 : Int) (a0_2 : Int) (a0_3 : Int) (a0_4 : Int) : Option (Bool) := some (okS ⟨a0_0, a0_1, a0_2, a0_3, a0_4⟩)
theorem ringroadref26_Setup.calls (a0_0 : Int) (a0_1 : Int) (a0_2 : Int) (a0_3 : Int) (a0_4 : Int) (r : Bool) (w : World) (h : ringroadref26_Setup.f a0_0 a0_1 a0_2 a0_3 a0_4 = some r) :
    Calls Tryd.prog 10 #[.agg #[.int .i64 a0_0, .int .i64 a0_1, .int .i64 a0_2, .int .i64 a0_3, .int .i64 a0_4]] w fun e w' => e = .returned (.bool r) ∧ Below w.heap.size w w' := by
  obtain rfl := Option.some.inj h
  exact rsetup_any ⟨a0_0, a0_1, a0_2, a0_3, a0_4⟩ w

/-! #### the operations -/
def ringroadref26_May.f (a0_0 : Int) (a0_1 : Int) (a0_2 : Int) (a0_3 : Int) (a0_4 : Int) : Option (Bool) := some (mayB ⟨a0_0, a0_1, a0_2, a0_3, a0_4⟩)
theorem ringroadref26_May.calls (a0_0 : Int) (a0_1 : Int) (a0_2 : Int) (a0_3 : Int) (a0_4 : Int) (r : Bool) (w : World) (h : ringroadref26_May.f a0_0 a0_1 a0_2 a0_3 a0_4 = some r) :
    Calls Tryd.prog 13 #[.agg #[.int .i64 a0_0, .int .i64 a0_1, .int .i64 a0_2, .int .i64 a0_3, .int .u64 a0_4]] w fun e w' => e = .returned (.bool r) ∧ Below w.heap.size w w' := by
  obtain rfl := Option.some.inj h
  exact rmay_any ⟨a0_0, a0_1, a0_2, a0_3, a0_4⟩ w

/-! #### numbers as bytes -/
def octet_Put.f (l0 : List Int) (a1 : Int) (a2 : Int) : Option (List Int) := if l0.length ≤ 1000000 ∧ 0 ≤ a2 ∧ a2 < 18446744073709551616 then some (l0 ++ low (clamp8 a1) a2) else none
theorem octet_Put.calls (A0 : Option Addr) (c0 : Nat) (l0 : List Int) (a1 : Int) (a2 : Int) (r : List Int) (w : World) (hr0 : Kd.C (Kd.int .u8) w A0 l0.length l0) (hc0 : l0.length ≤ c0) (h : octet_Put.f l0 a1 a2 = some r) :
    Calls Tryd.prog 31 #[.slice A0 l0.length c0, .int .i64 a1, .int .u64 a2] w fun e w' => ∃ v0_ : Value, e = .returned (v0_) ∧ Kd.R (Kd.int .u8) 5 w' w.heap.size (fun _ => True) v0_ r ∧ Below w.heap.size w w' := by
  unfold octet_Put.f at h
  split at h
  · rename_i hh
    obtain rfl := Option.some.inj h
    exact (put_any A0 l0.length c0 l0 a1 a2 w (reads8 hr0) hh.1 hh.2.1 hh.2.2).mono fun e w' ⟨u, h1, h2, h3⟩ => ⟨u, h1, r8 h2, h3⟩
  · cases h
def ringroadref02_Put.f (_k : Nat) (l0 : List Int) (a1 : Int) (a2 : Int) : Option (List Int) := octet_Put.f l0 a1 a2
theorem ringroadref02_Put.mono : ∀ a0 a1 a2 k, LeO (ringroadref02_Put.f k a0 a1 a2) (ringroadref02_Put.f (k + 1) a0 a1 a2) := fun _ _ _ _ => LeO.refl _
theorem ringroadref02_Put.calls (k : Nat) (A0 : Option Addr) (c0 : Nat) (l0 : List Int) (a1 : Int) (a2 : Int) (r : List Int) (w : World) (hr0 : Kd.C (Kd.int .u8) w A0 l0.length l0) (hc0 : l0.length ≤ c0) (h : ringroadref02_Put.f k l0 a1 a2 = some r) :
    Calls Tryd.prog 40 #[.slice A0 l0.length c0, .int .i64 a1, .int .u64 a2] w fun e w' => ∃ v0_ : Value, e = .returned (v0_) ∧ Kd.R (Kd.int .u8) 5 w' w.heap.size (fun _ => True) v0_ r ∧ Below w.heap.size w w' := by
  unfold ringroadref02_Put.f octet_Put.f at h
  split at h
  · rename_i hh
    obtain rfl := Option.some.inj h
    exact (refput_any A0 l0.length c0 l0 a1 a2 w (reads8 hr0) hh.1 hh.2.1 hh.2.2).mono fun e w' ⟨u, h1, h2, h3⟩ => ⟨u, h1, r8 h2, h3⟩
  · cases h
def ringroadref02_Number.f (_k : Nat) (l0 : List Int) : Option (Int) := if l0.length ≤ 8 ∧ bytB l0 = true then some (numb l0) else none
theorem ringroadref02_Number.mono : ∀ a0 k, LeO (ringroadref02_Number.f k a0) (ringroadref02_Number.f (k + 1) a0) := fun _ _ => LeO.refl _
theorem ringroadref02_Number.calls (k : Nat) (A0 : Option Addr) (c0 : Nat) (l0 : List Int) (r : Int) (w : World) (hr0 : Kd.C (Kd.int .u8) w A0 l0.length l0) (hc0 : l0.length ≤ c0) (h : ringroadref02_Number.f k l0 = some r) :
    Calls Tryd.prog 34 #[.slice A0 l0.length c0] w fun e w' => e = .returned (.int .u64 r) ∧ Drawn0 w w' := by
  unfold ringroadref02_Number.f at h
  split at h
  · rename_i hh
    obtain rfl := Option.some.inj h
    exact (number_any A0 l0.length c0 l0 w (reads8 hr0) (bytB_iff.1 hh.2) hh.1).mono fun e w' ⟨h1, h2⟩ => ⟨h1, ⟨0, h2.symm⟩⟩
  · cases h
end Go.Proofs.YteapmebmgaggcaaDoor.PW
