import Derived.Test.YteapmebmgaggcaaDoorPa
import Derived.Test.YteapmebmgaggcaaDoorVi
import Derived.Test.YteapmebmgaggcaaDoorRz
import Derived.Test.YteapmebmgaggcaaDoorSy
import Derived.Test.YteapmebmgaggcaaDoorCards
import Derived.Test.YteapmebmgaggcaaDoorTie
import Derived.WalkKit
import Derived.ProofKit
import Derived.OpenShut
import Derived.Deep.DeepHandedRow
import Derived.Lib.LaidTab
import Derived.Test.YteapmebmgaggcaaDoorWc
import Derived.Test.YteapmebmgaggcaaDoorVb
import Derived.Deep.Slices
namespace Go.Proofs.YteapmebmgaggcaaDoor.PW
open Go.RowKit Go.Proofs.YteapmebmgaggcaaDoorW.PrintWords Go.Proofs.YteapmebmgaggcaaDoorW.PrintLast Go.Proofs.YteapmebmgaggcaaDoorW.PrintMore
set_option linter.unusedVariables false
set_option linter.unusedSimpArgs false

theorem byt_dec {l : List Int} (h : bytB l = true) : Byt l := bytB_iff.1 h
theorem awake_val (k : Nat) (hk : 20 < k) : ringroadlaw26_awake.f k = some true := by
  unfold ringroadlaw26_awake.f
  rw [decode_val [82, 82, 1, 3, 1, 0, 0, 0, 6] (byt_dec (by decide)) k (by simp; omega), decode_val [82, 82, 1, 3, 1, 0, 0] (byt_dec (by decide)) k (by simp; omega), decode_val [82, 82, 1, 25, 1, 0, 0, 0] (byt_dec (by decide)) k (by simp; omega)]
  have d1 : decSpec [82, 82, 1, 3, 1, 0, 0, 0, 6] = (3, 1, 0, 0, 0, [z30], 0) := by kernel_rfl
  have d2 : decSpec [82, 82, 1, 3, 1, 0, 0] = (0, 0, 0, 0, 0, [], 7) := by kernel_rfl
  have d3 : decSpec [82, 82, 1, 25, 1, 0, 0, 0] = (0, 0, 0, 0, 0, [], 8) := by kernel_rfl
  rw [d1, d2, d3, Option.bind_some, Option.bind_some, Option.bind_some]
  have he := encode_val ⟨3, 1, 0, 0, 0⟩ [⟨6, 0, 0, 0, 0⟩] (by intro o ho; simp at ho; subst ho; exact ⟨by decide, by decide⟩) k (by simp; omega)
  dsimp only at he ⊢
  rw [he]
  have e1 : encSpec ⟨3, 1, 0, 0, 0⟩ [⟨6, 0, 0, 0, 0⟩] = ([82, 82, 1, 3, 1, 0, 0, 0, 6, 0, 0, 0, 0, 0, 0, 0, 0, 0, 0, 0], 0) := by decide +kernel
  rw [e1, Option.bind_some]
  rfl
theorem byt_app {a b : List Int} (ha : Byt a) (hb : Byt b) : Byt (a ++ b) := fun x hx => (List.mem_append.1 hx).elim (ha x) (hb x)
theorem numb_low8 (v : Int) (h0 : 0 ≤ v) (h1 : v < 18446744073709551616) : numb (low 8 v) = v := by
  have e : low 8 v = [v / 72057594037927936 % 256, v / 281474976710656 % 256, v / 1099511627776 % 256, v / 4294967296 % 256, v / 16777216 % 256, v / 65536 % 256, v / 256 % 256, v % 256] := by
    simp [low]
  rw [e]
  unfold numb
  simp only [List.foldl_cons, List.foldl_nil]
  omega
theorem ints_l0 : ∀ (n k : Nat) (x : List Int) (i : Nat), x.length = i + n → n < k → x.length < 1000000000 → ringroadref01_Ints.l0 k x x (i : Int) = some true := by
  intro n
  induction n with
  | zero =>
    intro k x i hl hk hm
    obtain ⟨k, rfl⟩ : ∃ j, k = j + 1 := ⟨k - 1, by omega⟩
    rw [ringroadref01_Ints.l0, if_neg (by omega)]
  | succ n ih =>
    intro k x i hl hk hm
    obtain ⟨k, rfl⟩ : ∃ j, k = j + 1 := ⟨k - 1, by omega⟩
    have e : wrap64 ((i : Int) + 1) = ((i + 1 : Nat) : Int) := by rw [wz (by omega) (by omega)]; omega
    rw [ringroadref01_Ints.l0, if_pos (by omega), if_pos (by omega), if_pos (by omega), if_pos rfl, e]
    exact ih k x (i + 1) (by omega) (by omega) hm
theorem ints_self (x : List Int) (k : Nat) (hk : x.length < k) (hm : x.length < 1000000000) : ringroadref01_Ints.f k x x = some true := by
  unfold ringroadref01_Ints.f
  rw [if_pos rfl]
  exact ints_l0 x.length k x 0 (by omega) hk hm
theorem replies_l0 (x : List S49) (M : Nat) (hM : M < 1000000000) (hx : ∀ r ∈ x, r.f1.length ≤ M ∧ r.f2.length ≤ M) (hm : x.length < 1000000000) : ∀ (n k i : Nat), x.length = i + n → n + M + 1 < k → ringroadlaw26_Replies.l0 k x x (i : Int) = some true := by
  intro n
  induction n with
  | zero =>
    intro k i hl hk
    obtain ⟨k, rfl⟩ : ∃ j, k = j + 1 := ⟨k - 1, by omega⟩
    rw [ringroadlaw26_Replies.l0, if_neg (by omega)]
  | succ n ih =>
    intro k i hl hk
    obtain ⟨k, rfl⟩ : ∃ j, k = j + 1 := ⟨k - 1, by omega⟩
    have hi : i < x.length := by omega
    have hg : rd_T49 x (i : Int) = x[i] := by simp [rd_T49, hi]
    have hr := hx x[i] (List.getElem_mem hi)
    have e : wrap64 ((i : Int) + 1) = ((i + 1 : Nat) : Int) := by rw [wz (by omega) (by omega)]; omega
    rw [ringroadlaw26_Replies.l0, if_pos (by omega), if_pos (by omega), if_pos (by omega), if_pos rfl, hg, ints_self _ k (by omega) (by omega), Option.bind_some, if_pos (rfl : true = true), ints_self _ k (by omega) (by omega), Option.bind_some, if_pos (rfl : true = true), e]
    exact ih k (i + 1) (by omega) (by omega)
theorem replies_self (x : List S49) (M : Nat) (hM : M < 1000000000) (hx : ∀ r ∈ x, r.f1.length ≤ M ∧ r.f2.length ≤ M) (hm : x.length < 1000000000) (k : Nat) (hk : x.length + M + 1 < k) : ringroadlaw26_Replies.f k x x = some true := by
  unfold ringroadlaw26_Replies.f
  rw [if_pos rfl]
  exact replies_l0 x M hM hx hm x.length k 0 (by omega) hk
/-! #### which answers may be laid -/
theorem in_val (x : Int) : ringroadref26_in.f x 0 255 = some (decide (0 ≤ x ∧ x ≤ 255)) := by
  unfold ringroadref26_in.f
  by_cases h : x ≥ 0
  · rw [if_pos h]
    congr 1
    apply decide_eq_decide.2
    omega
  · rw [if_neg h]
    congr 1
    symm
    apply decide_eq_false
    omega
theorem rdi (l : List Int) (i : Nat) (hi : i < l.length) : rd l (i : Int) = l[i] := by simp [rd, hi]
theorem fits_l1 (a : Int) (l1 l2 : List Int) (hm : l2.length < 1000000) : ∀ (n k i : Nat), l2.length = i + n → n < k → ringroadref26_Fits.l1 k (i : Int) a l1 l2 = some (!(l2.drop i).any outP) := by
  intro n
  induction n with
  | zero =>
    intro k i hl hk
    obtain ⟨k, rfl⟩ : ∃ q, k = q + 1 := ⟨k - 1, by omega⟩
    rw [ringroadref26_Fits.l1, if_neg (by omega), List.drop_of_length_le (by omega)]
    rfl
  | succ n ih =>
    intro k i hl hk
    obtain ⟨k, rfl⟩ : ∃ q, k = q + 1 := ⟨k - 1, by omega⟩
    have hi : i < l2.length := by omega
    have e : wrap64 ((i : Int) + 1) = ((i + 1 : Nat) : Int) := by rw [wz (by omega) (by omega)]; omega
    rw [ringroadref26_Fits.l1, if_pos (by omega), if_pos (by omega), in_val, Option.bind_some, rdi l2 i hi, e, List.drop_eq_getElem_cons hi, List.any_cons]
    by_cases h : 0 ≤ l2[i] ∧ l2[i] ≤ 255
    · have ho : outP l2[i] = false := by unfold outP; rw [decide_eq_true h]; rfl
      rw [if_pos (decide_eq_true h), ih k (i + 1) (by omega) (by omega), ho, Bool.false_or]
    · have ho : outP l2[i] = true := by unfold outP; rw [decide_eq_false h]; rfl
      rw [if_neg (by rw [decide_eq_false h]; simp), ho]
      rfl
theorem fits_l0 (a : Int) (l1 l2 : List Int) (hm : l2.length < 1000000) (hm1 : l1.length < 1000000) : ∀ (n k i : Nat), l1.length = i + n → n + l2.length + 1 < k → ringroadref26_Fits.l0 k (i : Int) a l1 l2 = some (!(l1.drop i).any negP && !l2.any outP) := by
  intro n
  induction n with
  | zero =>
    intro k i hl hk
    obtain ⟨k, rfl⟩ : ∃ q, k = q + 1 := ⟨k - 1, by omega⟩
    have h1 := fits_l1 a l1 l2 hm l2.length k 0 (by omega) (by omega)
    rw [ringroadref26_Fits.l0, if_neg (by omega), List.drop_of_length_le (by omega)]
    simpa using h1
  | succ n ih =>
    intro k i hl hk
    obtain ⟨k, rfl⟩ : ∃ q, k = q + 1 := ⟨k - 1, by omega⟩
    have hi : i < l1.length := by omega
    have e : wrap64 ((i : Int) + 1) = ((i + 1 : Nat) : Int) := by rw [wz (by omega) (by omega)]; omega
    rw [ringroadref26_Fits.l0, if_pos (by omega), if_pos (by omega), rdi l1 i hi, e, List.drop_eq_getElem_cons hi, List.any_cons]
    by_cases h : l1[i] < 0
    · have ho : negP l1[i] = true := decide_eq_true h
      rw [if_pos h, ho]
      rfl
    · have ho : negP l1[i] = false := decide_eq_false h
      rw [if_neg h, ih k (i + 1) (by omega) (by omega), ho, Bool.false_or]
theorem fits_val (a : Int) (l1 l2 : List Int) (hm : l2.length < 1000000) (hm1 : l1.length < 1000000) (k : Nat) (hk : l1.length + l2.length + 3 < k) : ringroadref26_Fits.f k a l1 l2 = some (fitsB a l1 l2) := by
  obtain ⟨k, rfl⟩ : ∃ q, k = q + 1 := ⟨k - 1, by omega⟩
  have hl := fits_l0 a l1 l2 hm hm1 l1.length k 0 (by omega) (by omega)
  rw [List.drop_zero] at hl
  unfold ringroadref26_Fits.f fitsB
  rw [in_val, Option.bind_some]
  by_cases h : 0 ≤ a ∧ a ≤ 255
  · rw [if_pos (decide_eq_true h), decide_eq_true h]
    by_cases h1 : (l1.length : Int) > 65535
    · have h1' : ¬ l1.length ≤ 65535 := by omega
      rw [if_pos h1, decide_eq_false h1', ringroadref26_Fits.j0, if_pos rfl]
      rfl
    · have h1' : l1.length ≤ 65535 := by omega
      rw [if_neg h1, decide_eq_true h1', ringroadref26_Fits.j0]
      by_cases h2 : (l2.length : Int) > 255
      · have h2' : ¬ l2.length ≤ 255 := by omega
        rw [if_pos (decide_eq_true h2), decide_eq_false h2']
        rfl
      · have h2' : l2.length ≤ 255 := by omega
        rw [if_neg (by rw [decide_eq_false h2]; simp), decide_eq_true h2']
        exact hl
  · rw [if_neg (by rw [decide_eq_false h]; simp), decide_eq_false h, ringroadref26_Fits.j0, if_pos rfl]
    rfl
def fitR (r : S49) : Bool := fitsB r.f0 r.f1 r.f2
theorem fitR_parts {r : S49} (h : fitR r = true) : 0 ≤ r.f0 ∧ r.f0 ≤ 255 ∧ r.f1.length ≤ 65535 ∧ r.f2.length ≤ 255 ∧ (∀ d ∈ r.f1, 0 ≤ d) ∧ (∀ x ∈ r.f2, 0 ≤ x ∧ x ≤ 255) := by
  unfold fitR fitsB at h
  simp only [Bool.and_eq_true, decide_eq_true_eq, Bool.not_eq_true', List.any_eq_false] at h
  obtain ⟨⟨h0, h1⟩, h2, h3, h4, h5⟩ := h
  refine ⟨h0, h1, h2, h3, fun d hd => ?_, fun x hx => ?_⟩
  · have := h4 d hd
    unfold negP at this
    simp at this
    exact this
  · have := h5 x hx
    unfold outP at this
    simp at this
    exact this

/-! #### answers as bytes -/
def repB (r : S49) : List Int := [r.f0 % 256] ++ (low 2 (r.f1.length : Int) ++ (r.f1.flatMap (low 8) ++ ([(r.f2.length : Int) % 256] ++ lo8 r.f2)))
def repsB (l : List S49) : List Int := l.flatMap repB
def Small (l : List S49) : Prop := ∀ r ∈ l, r.f1.length ≤ 500 ∧ r.f2.length ≤ 500
def D63 (l : List S49) : Prop := ∀ r ∈ l, ∀ d ∈ r.f1, d < 9223372036854775808
theorem low8_length (l : List Int) : (l.flatMap (low 8)).length = 8 * l.length := by
  induction l with
  | nil => rfl
  | cons o r ih => rw [List.flatMap_cons, List.length_append, ih, low_length, List.length_cons]; omega
theorem repB_length (r : S49) : (repB r).length = 4 + 8 * r.f1.length + r.f2.length := by
  unfold repB
  simp only [List.length_append, low_length, low8_length, lo8, List.length_map, List.length_cons, List.length_nil]
  omega
theorem u64w {n : Int} (h0 : 0 ≤ n) (h1 : n < 9223372036854775808) : IntKind.u64.wrap n = n := by
  simp only [IntKind.wrap, IntKind.bits, IntKind.signed]
  simp
  omega
theorem put2 (l : List Int) (n : Nat) (hl : l.length ≤ 1000000) (hn : n < 1000000) : octet_Put.f l 2 (IntKind.u64.wrap (n : Int)) = some (l ++ low 2 (n : Int)) := by
  rw [u64w (by omega) (by omega)]
  unfold octet_Put.f
  rw [if_pos ⟨hl, by omega, by omega⟩]
  rfl
theorem put8w (l : List Int) (v : Int) (hl : l.length ≤ 1000000) (h0 : 0 ≤ v) (h1 : v < 9223372036854775808) : octet_Put.f l 8 (IntKind.u64.wrap v) = some (l ++ low 8 v) := by
  rw [u64w h0 h1]
  exact put8 l v hl h0 (by omega)
theorem rd49 (l : List S49) (i : Nat) (hi : i < l.length) : rd_T49 l (i : Int) = l[i] := by simp [rd_T49, hi]
theorem er_l1 (l : List S49) (x11 N c : Int) (x1 ids ds : List Int) (hd : ∀ d ∈ ds, 0 ≤ d ∧ d < 9223372036854775808) (hdl : ds.length ≤ 500) (hil : ids.length ≤ 500) :
    ∀ (n k i : Nat) (acc : List Int), ds.length = i + n → ids.length < k → acc.length + 8 * n ≤ 900000 →
      wire_EncodeReplies.l1 (k + n + 1) acc l N x11 ds (ds.length : Int) (i : Int) c x1 ids = wire_EncodeReplies.l0 k (acc ++ ((ds.drop i).flatMap (low 8) ++ ([(ids.length : Int) % 256] ++ lo8 ids))) l N (wrap64 (x11 + 1)) := by
  intro n
  induction n with
  | zero =>
    intro k i acc hl hk ha
    rw [Nat.add_zero, wire_EncodeReplies.l1, if_neg (by omega), if_pos (by omega), laid_val _ _ k hk (by simp; omega), Option.bind_some, List.drop_of_length_le (by omega), List.flatMap_nil, List.nil_append, List.append_assoc]
  | succ n ih =>
    intro k i acc hl hk ha
    have hi : i < ds.length := by omega
    have hdi := hd ds[i] (List.getElem_mem hi)
    have e : wrap64 ((i : Int) + 1) = ((i + 1 : Nat) : Int) := by rw [wz (by omega) (by omega)]; omega
    rw [← Nat.add_assoc, wire_EncodeReplies.l1, if_pos (by omega), if_pos (by omega), if_pos (by omega), rdi ds i hi, put8w acc _ (by omega) hdi.1 hdi.2, Option.bind_some, e,
      ih k (i + 1) _ (by omega) hk (by rw [List.length_append, low_length]; omega), List.drop_eq_getElem_cons hi, List.flatMap_cons, List.append_assoc, List.append_assoc]
theorem er_l0 (l : List S49) (hs : Small l) (h50 : l.length ≤ 50) (hw : D63 l) : ∀ (n k i : Nat) (acc : List Int), l.length = i + n → 502 * n + 600 < k → acc.length ≤ 4504 * i →
    wire_EncodeReplies.l0 k acc l (l.length : Int) (i : Int) = some (if (l.drop i).all fitR = true then (acc ++ repsB (l.drop i), 0) else ([], 1)) := by
  intro n
  induction n with
  | zero =>
    intro k i acc hl hk ha
    obtain ⟨k, rfl⟩ : ∃ q, k = q + 1 := ⟨k - 1, by omega⟩
    rw [wire_EncodeReplies.l0, if_neg (by omega), List.drop_of_length_le (by omega)]
    simp [repsB]
  | succ n ih =>
    intro k i acc hl hk ha
    obtain ⟨k, rfl⟩ : ∃ q, k = q + 1 := ⟨k - 1, by omega⟩
    have hi : i < l.length := by omega
    have hm : l[i] ∈ l := List.getElem_mem hi
    have hsi := hs _ hm
    have hwi := hw _ hm
    have e : wrap64 ((i : Int) + 1) = ((i + 1 : Nat) : Int) := by rw [wz (by omega) (by omega)]; omega
    rw [wire_EncodeReplies.l0, if_pos (by omega), if_pos (by omega), if_pos (by omega), rd49 l i hi, List.drop_eq_getElem_cons hi]
    obtain ⟨r, hr⟩ : ∃ r, r = l[i] := ⟨_, rfl⟩
    rw [← hr] at hm hsi hwi ⊢
    have hf : wire_fits.f k r.f0 r.f1 r.f2 = some (fitR r) := rfl
    rw [hf, Option.bind_some, List.all_cons]
    cases hfit : fitR r
    · rw [if_neg (by simp), if_neg (by simp)]
    · have hp := fitR_parts hfit
      obtain ⟨k', hk'⟩ : ∃ k', k = k' + r.f1.length + 1 := ⟨k - r.f1.length - 1, by omega⟩
      have hlen : (acc ++ [r.f0 % 256]).length = acc.length + 1 := by simp
      have h1 := er_l1 l (i : Int) (l.length : Int) r.f0 r.f1 r.f2 r.f1 (fun d hd => ⟨hp.2.2.2.2.1 d hd, hwi d hd⟩) hsi.1 hsi.2 r.f1.length k' 0 (acc ++ [r.f0 % 256] ++ low 2 (r.f1.length : Int)) (by omega) (by omega) (by rw [List.length_append, hlen, low_length]; omega)
      rw [show ((0 : Nat) : Int) = 0 from rfl] at h1
      have hstep := ih k' (i + 1) (acc ++ repB r) (by omega) (by omega) (by rw [List.length_append, repB_length]; omega)
      have happ : acc ++ [r.f0 % 256] ++ low 2 (r.f1.length : Int) ++ (r.f1.flatMap (low 8) ++ ([(r.f2.length : Int) % 256] ++ lo8 r.f2)) = acc ++ repB r := by unfold repB; simp only [List.append_assoc]
      rw [if_pos rfl, if_pos (by omega), put2 _ _ (by rw [hlen]; omega) (by omega), Option.bind_some, hk', h1, List.drop_zero, happ, e, hstep]
      congr 1
      rw [Bool.true_and]
      split
      · unfold repsB
        rw [List.flatMap_cons, List.append_assoc]
      · rfl
theorem er_val (l : List S49) (hs : Small l) (h50 : l.length ≤ 50) (hw : D63 l) (k : Nat) (hk : 502 * l.length + 600 < k) : wire_EncodeReplies.f k l = some (if l.all fitR = true then (repsB l, 0) else ([], 1)) := by
  unfold wire_EncodeReplies.f
  have := er_l0 l hs h50 hw l.length k 0 [] (by omega) hk (by simp)
  simpa using this
theorem rr_l2 (l : List S49) (i : Nat) (hi : i < l.length) (hsm : l[i].f2.length ≤ 500) : ∀ (n k j : Nat) (acc : List Int), l[i].f2.length = j + n → acc.length + n ≤ 900000 →
    ringroadref26_Replies.l2 (k + n + 1) l acc (i : Int) (j : Int) = ringroadref26_Replies.l0 k l (acc ++ lo8 (l[i].f2.drop j)) (wrap64 ((i : Int) + 1)) := by
  intro n
  induction n with
  | zero =>
    intro k j acc hl ha
    rw [Nat.add_zero, ringroadref26_Replies.l2, if_pos (by omega), if_pos (by omega), rd49 l i hi, if_neg (by omega), List.drop_of_length_le (by omega)]
    simp [lo8]
  | succ n ih =>
    intro k j acc hl ha
    have hj : j < l[i].f2.length := by omega
    have e : wrap64 ((j : Int) + 1) = ((j + 1 : Nat) : Int) := by rw [wz (by omega) (by omega)]; omega
    rw [← Nat.add_assoc, ringroadref26_Replies.l2, if_pos (by omega), if_pos (by omega), rd49 l i hi, if_pos (by omega), if_pos (by omega), if_pos (by omega), rdi _ j hj, e, ih k (j + 1) _ (by omega) (by simp; omega), List.drop_eq_getElem_cons hj]
    simp only [lo8, List.map_cons, List.append_assoc, List.cons_append, List.nil_append]
theorem rr_l1 (l : List S49) (i : Nat) (hi : i < l.length) (hs1 : l[i].f1.length ≤ 500) (hs2 : l[i].f2.length ≤ 500) (hd : ∀ d ∈ l[i].f1, 0 ≤ d ∧ d < 9223372036854775808) : ∀ (n k j : Nat) (acc : List Int), l[i].f1.length = j + n → acc.length + 8 * n ≤ 800000 →
    ringroadref26_Replies.l1 (k + l[i].f2.length + 1 + n + 1) l acc (i : Int) (j : Int) = ringroadref26_Replies.l0 k l (acc ++ ((l[i].f1.drop j).flatMap (low 8) ++ ([(l[i].f2.length : Int) % 256] ++ lo8 l[i].f2))) (wrap64 ((i : Int) + 1)) := by
  intro n
  induction n with
  | zero =>
    intro k j acc hl ha
    have h2 := rr_l2 l i hi hs2 l[i].f2.length k 0 (acc ++ [(l[i].f2.length : Int) % 256]) (by omega) (by simp; omega)
    rw [show ((0 : Nat) : Int) = 0 from rfl] at h2
    rw [Nat.add_zero, ringroadref26_Replies.l1, if_pos (by omega), if_pos (by omega), rd49 l i hi, if_neg (by omega), if_pos (by omega), h2, List.drop_zero, List.drop_of_length_le (show l[i].f1.length ≤ j by omega), List.flatMap_nil, List.nil_append, List.append_assoc]
  | succ n ih =>
    intro k j acc hl ha
    have hj : j < l[i].f1.length := by omega
    have hdj := hd _ (List.getElem_mem hj)
    have e : wrap64 ((j : Int) + 1) = ((j + 1 : Nat) : Int) := by rw [wz (by omega) (by omega)]; omega
    rw [← Nat.add_assoc, ringroadref26_Replies.l1, if_pos (by omega), if_pos (by omega), rd49 l i hi, if_pos (by omega), if_pos (by omega), rdi _ j hj]
    have hp : ringroadref02_Put.f (k + l[i].f2.length + 1 + n + 1) acc 8 (IntKind.u64.wrap l[i].f1[j]) = some (acc ++ low 8 l[i].f1[j]) := put8w acc _ (by omega) hdj.1 hdj.2
    rw [hp, Option.bind_some, e, ih k (j + 1) _ (by omega) (by rw [List.length_append, low_length]; omega), List.drop_eq_getElem_cons hj, List.flatMap_cons, List.append_assoc, List.append_assoc]
theorem rr_l0 (l : List S49) (hs : Small l) (h50 : l.length ≤ 50) (hw : D63 l) (hfit : l.all fitR = true) : ∀ (n k i : Nat) (acc : List Int), l.length = i + n → 1003 * n < k → acc.length ≤ 4504 * i →
    ringroadref26_Replies.l0 k l acc (i : Int) = some (acc ++ repsB (l.drop i)) := by
  intro n
  induction n with
  | zero =>
    intro k i acc hl hk ha
    obtain ⟨k, rfl⟩ : ∃ q, k = q + 1 := ⟨k - 1, by omega⟩
    rw [ringroadref26_Replies.l0, if_neg (by omega), List.drop_of_length_le (by omega)]
    simp [repsB]
  | succ n ih =>
    intro k i acc hl hk ha
    have hi : i < l.length := by omega
    have hm : l[i] ∈ l := List.getElem_mem hi
    have hsi := hs _ hm
    have hwi := hw _ hm
    have hp := fitR_parts (List.all_eq_true.1 hfit _ hm)
    have e : wrap64 ((i : Int) + 1) = ((i + 1 : Nat) : Int) := by rw [wz (by omega) (by omega)]; omega
    obtain ⟨k', rfl⟩ : ∃ k', k = k' + l[i].f2.length + 1 + l[i].f1.length + 1 + 1 := ⟨k - l[i].f2.length - l[i].f1.length - 3, by omega⟩
    have hlen : (acc ++ [l[i].f0 % 256]).length = acc.length + 1 := by simp
    have h1 := rr_l1 l i hi hsi.1 hsi.2 (fun d hd => ⟨hp.2.2.2.2.1 d hd, hwi d hd⟩) l[i].f1.length k' 0 (acc ++ [l[i].f0 % 256] ++ low 2 (l[i].f1.length : Int)) (by omega) (by rw [List.length_append, hlen, low_length]; omega)
    rw [show ((0 : Nat) : Int) = 0 from rfl, List.drop_zero] at h1
    have hstep := ih k' (i + 1) (acc ++ repB l[i]) (by omega) (by omega) (by rw [List.length_append, repB_length]; omega)
    have happ : acc ++ [l[i].f0 % 256] ++ low 2 (l[i].f1.length : Int) ++ (l[i].f1.flatMap (low 8) ++ ([(l[i].f2.length : Int) % 256] ++ lo8 l[i].f2)) = acc ++ repB l[i] := by unfold repB; simp only [List.append_assoc]
    have hput : ringroadref02_Put.f (k' + l[i].f2.length + 1 + l[i].f1.length + 1) (acc ++ [l[i].f0 % 256]) 2 (IntKind.u64.wrap (l[i].f1.length : Int)) = some (acc ++ [l[i].f0 % 256] ++ low 2 (l[i].f1.length : Int)) := put2 _ _ (by rw [hlen]; omega) (by omega)
    rw [ringroadref26_Replies.l0, if_pos (by omega), if_pos (by omega), if_pos (by omega), rd49 l i hi, hput, Option.bind_some, h1, happ, e, hstep, List.drop_eq_getElem_cons hi]
    unfold repsB
    rw [List.flatMap_cons, List.append_assoc]
theorem rr_val (l : List S49) (hs : Small l) (h50 : l.length ≤ 50) (hw : D63 l) (hfit : l.all fitR = true) (k : Nat) (hk : 1003 * l.length < k) : ringroadref26_Replies.f k l = some (repsB l) := by
  unfold ringroadref26_Replies.f
  have := rr_l0 l hs h50 hw hfit l.length k 0 [] (by omega) hk (by simp)
  simpa using this

/-! #### and back -/
theorem take8_app : ∀ (ds rest : List Int), (∀ d ∈ ds, 0 ≤ d ∧ d < 9223372036854775808) → takeN 8 ds.length (ds.flatMap (low 8) ++ rest) = some (ds, rest) := by
  intro ds
  induction ds with
  | nil => intro rest _; rfl
  | cons d r ih =>
    intro rest h
    have hd := h d (List.mem_cons_self)
    rw [List.length_cons, List.flatMap_cons, List.append_assoc, takeN_step (by rw [List.length_append, low_length]; omega)]
    have h1 : (low 8 d ++ (r.flatMap (low 8) ++ rest)).drop 8 = r.flatMap (low 8) ++ rest := List.drop_left' (low_length 8 d)
    have h2 : (low 8 d ++ (r.flatMap (low 8) ++ rest)).take 8 = low 8 d := List.take_left' (low_length 8 d)
    rw [h1, h2, ih rest (fun x hx => h x (List.mem_cons_of_mem _ hx)), Option.map_some, numb_low8 d hd.1 (by omega)]
theorem take1_app : ∀ (ds rest : List Int), (∀ d ∈ ds, 0 ≤ d ∧ d ≤ 255) → takeN 1 ds.length (lo8 ds ++ rest) = some (ds, rest) := by
  intro ds
  induction ds with
  | nil => intro rest _; rfl
  | cons d r ih =>
    intro rest h
    have hd := h d (List.mem_cons_self)
    have e : lo8 (d :: r) ++ rest = d % 256 :: (lo8 r ++ rest) := rfl
    have e2 : d % 256 = d := by omega
    rw [List.length_cons, e, e2, takeN_step (by simp), List.drop_one, List.tail_cons, ih rest (fun x hx => h x (List.mem_cons_of_mem _ hx)), Option.map_some]
    have : numb (List.take 1 (d :: (lo8 r ++ rest))) = d := by simp [numb]
    rw [this]
theorem replyS_rep {r : S49} (h : fitR r = true) (hw : ∀ d ∈ r.f1, d < 9223372036854775808) (rest : List Int) : replyS (repB r ++ rest) = some (r, false, rest) := by
  obtain ⟨h0, h1, h2, h3, h4, h5⟩ := fitR_parts h
  have e : repB r ++ rest = r.f0 :: (((r.f1.length : Nat) : Int) / 256) :: (((r.f1.length : Nat) : Int) % 256) :: (r.f1.flatMap (low 8) ++ (((r.f2.length : Nat) : Int) :: (lo8 r.f2 ++ rest))) := by
    have e0 : r.f0 % 256 = r.f0 := by omega
    have e1 : ((r.f2.length : Nat) : Int) % 256 = ((r.f2.length : Nat) : Int) := by omega
    have e2 : low 2 ((r.f1.length : Nat) : Int) = [((r.f1.length : Nat) : Int) / 256, ((r.f1.length : Nat) : Int) % 256] := by
      have : ((r.f1.length : Nat) : Int) / 256 % 256 = ((r.f1.length : Nat) : Int) / 256 := by omega
      simp [low, this]
    unfold repB
    rw [e0, e1, e2]
    simp
  have hn : (numb [((r.f1.length : Nat) : Int) / 256, ((r.f1.length : Nat) : Int) % 256]).toNat = r.f1.length := by
    simp only [numb, List.foldl_cons, List.foldl_nil]
    omega
  have hn1 : (numb [((r.f2.length : Nat) : Int)]).toNat = r.f2.length := by
    simp [numb]
  have hn0 : numb [r.f0] = r.f0 := by simp [numb]
  rw [e]
  unfold replyS
  rw [if_pos (by simp), if_pos (by simp)]
  simp only [List.drop_succ_cons, List.drop_zero, List.take_succ_cons, List.take_zero]
  rw [hn, take8_app r.f1 _ (fun d hd => ⟨h4 d hd, hw d hd⟩), Option.bind_some]
  dsimp only
  rw [if_pos (by simp)]
  simp only [List.drop_succ_cons, List.drop_zero, List.take_succ_cons, List.take_zero]
  rw [hn1, take1_app r.f2 rest h5, Option.bind_some]
  dsimp only
  rw [hn0, wz h0 (by omega)]
  have m1 : r.f1.map wrap64 = r.f1 := by
    have : r.f1.map wrap64 = r.f1.map id := List.map_congr_left fun d hd => wz (h4 d hd) (hw d hd)
    rw [this, List.map_id]
  have m2 : r.f2.map wrap64 = r.f2 := by
    have : r.f2.map wrap64 = r.f2.map id := List.map_congr_left fun d hd => wz (h5 d hd).1 (by have := (h5 d hd).2; omega)
    rw [this, List.map_id]
  have m3 : r.f1.any big = false := by
    rw [List.any_eq_false]
    intro d hd
    have := hw d hd
    unfold big
    simp
    omega
  rw [m1, m2, m3]
theorem drS_reps : ∀ (l acc : List S49), l.all fitR = true → D63 l → drS (repsB l).length (repsB l) acc = (acc ++ l, 0) := by
  intro l
  induction l with
  | nil => intro acc _ _; rw [drS_done (by rfl), List.append_nil]
  | cons r l ih =>
    intro acc hf hw
    rw [List.all_cons, Bool.and_eq_true] at hf
    have hs := replyS_rep hf.1 (hw r List.mem_cons_self) (repsB l)
    have e : repsB (r :: l) = repB r ++ repsB l := by unfold repsB; rw [List.flatMap_cons]
    have h0 : ¬ (repB r ++ repsB l).length = 0 := by rw [List.length_append, repB_length]; omega
    rw [e, drS_step h0 hs, ih _ hf.2 (fun x hx => hw x (List.mem_cons_of_mem _ hx)), List.append_assoc]
    rfl
theorem repB_byt {r : S49} : Byt (repB r) := by
  unfold repB
  refine byt_app ?_ (byt_app (low_byt 2 _) (byt_app ?_ (byt_app ?_ ?_)))
  · intro x hx; simp at hx; omega
  · intro x hx
    obtain ⟨d, _, hd⟩ := List.mem_flatMap.1 hx
    exact low_byt 8 d x hd
  · intro x hx; simp at hx; omega
  · intro x hx
    obtain ⟨d, _, rfl⟩ := List.mem_map.1 hx
    omega
theorem repsB_byt (l : List S49) : Byt (repsB l) := by
  intro x hx
  obtain ⟨r, _, hr⟩ := List.mem_flatMap.1 hx
  exact repB_byt x hr
theorem repsB_length (l : List S49) (hs : Small l) : (repsB l).length ≤ 4504 * l.length := by
  induction l with
  | nil => simp [repsB]
  | cons r l ih =>
    have e : repsB (r :: l) = repB r ++ repsB l := by unfold repsB; rw [List.flatMap_cons]
    have h1 := ih (fun x hx => hs x (List.mem_cons_of_mem _ hx))
    have h2 := hs r List.mem_cons_self
    rw [e, List.length_append, repB_length, List.length_cons]
    omega
theorem dr_back (l : List S49) (hs : Small l) (h50 : l.length ≤ 50) (hw : D63 l) (hfit : l.all fitR = true) : wire_DecodeReplies.f (repsB l) = some (l, 0) := by
  unfold wire_DecodeReplies.f
  have := repsB_length l hs
  rw [if_pos ⟨bytB_of (repsB_byt l), by omega⟩, drS_reps l [] hfit hw, List.nil_append]
end Go.Proofs.YteapmebmgaggcaaDoor.PW

namespace Go.Proofs.YteapmebmgaggcaaDoor.PRow
open Go.ChangeShapes Go.WideShapes Go.ChangeAt Go.RowKit
set_option linter.unusedVariables false

theorem own : ownKnob Tryd.prog.godebug = none := by kernel_rfl
theorem laidOut : laidOutB Tryd.prog = true := by kernel_rfl
theorem gTab : Tryd.prog.globalNamed "ringroad/wire.needs" = some 0 := by kernel_rfl
theorem gTabType : (Tryd.prog.globals[0]?).map (·.type) = some 57 := by kernel_rfl
theorem cells57 : Tryd.prog.cellsOf 57 = 15 := by kernel_rfl
theorem cells3 : Tryd.prog.cellsOf 3 = 1 := by kernel_rfl
theorem table {W : World} (h : laidMetH Tryd.prog [("ringroad/wire.needs", Rows.laid_ringroad_wire_needs)] W) : Lib.TabIs Tryd.prog W "ringroad/wire.needs" .i64 needT :=
  Lib.tabIs_of_head (rest := []) gTab gTabType Tryd.underlying57 Tryd.underlying3 cells3 cells57 h
theorem needs_of {W : World} (h : laidMetH Tryd.prog [("ringroad/wire.needs", Rows.laid_ringroad_wire_needs)] W) : NeedsOk W := by
  have hc : ∀ i, i < 15 → W.cell? ⟨0, i, none⟩ = some (.int .i64 (needT.getD i 0)) := fun i hi => (table h).cell gTab i hi
  exact ⟨World.block_lt_of_cell? _ _ (hc 0 (by decide)), hc⟩
/-- A world for the witness: the settled one, the table (block 0) holding what its initialiser lays. -/
noncomputable def laidWorld (os : Os) : World :=
  { World.holding Tryd.prog os ⟨#[], #[], []⟩ with heap := (World.holding Tryd.prog os ⟨#[], #[], []⟩).heap.modify 0 fun
      | .cells _ t frozen => .cells #[.int .i64 (-1), .int .i64 15, .int .i64 1, .int .i64 1, .int .i64 1, .int .i64 9, .int .i64 0, .int .i64 1, .int .i64 9, .int .i64 1, .int .i64 3, .int .i64 3, .int .i64 9, .int .i64 8, .int .i64 0] t frozen
      | o => o }
end Go.Proofs.YteapmebmgaggcaaDoor.PRow

namespace Go.Proofs.YteapmebmgaggcaaDoor.PRow
open Go.ChangeShapes Go.WideShapes Go.ChangeAt Go.RowKit
open Go.Proofs.YteapmebmgaggcaaDoor.PW Go.Proofs.YteapmebmgaggcaaDoorW.PrintWords Go.Deep
set_option linter.unusedVariables false

theorem cells23 : Tryd.prog.cellsOf 23 = 5 := by kernel_rfl
theorem cells30 : Tryd.prog.cellsOf 30 = 5 := by kernel_rfl
theorem cells28 : Tryd.prog.cellsOf 28 = 1 := by kernel_rfl
theorem list5 {α : Type} {cs : List α} (h : cs.length = 5) : ∃ c0 c1 c2 c3 c4, cs = [c0, c1, c2, c3, c4] := by
  match cs, h with
  | [c0, c1, c2, c3, c4], _ => exact ⟨c0, c1, c2, c3, c4, rfl⟩
section
variable {H : Type} {enc : TypeId × Value → H} {w : World} {base : Nat} {sp : Nat → Bool} {held : Bool}
/-- A setup that came in. -/
theorem setup_cells {fuel : Nat} {cs : List Value} {x : DataW H × List MemPlace} (h : DataW.trod enc Tryd.prog w base sp held fuel 23 cs = some x) :
    ∃ s : SU, cs = [.int .i64 s.ve, .int .i64 s.jo, .int .i64 s.au, .int .i64 s.pe, .int .i64 s.pa] := by
  obtain ⟨xs, n, _, _, hl, hlen, hf⟩ := DataW.trod_struct Tryd.underlying23 h
  obtain ⟨c0, c1, c2, c3, c4, rfl⟩ := list5 (hl.trans cells23)
  obtain ⟨y0, y1, y2, y3, y4, rfl⟩ := list5 hlen
  have h0 : DataW.trod enc Tryd.prog w base sp held n 3 (([c0, c1, c2, c3, c4].drop 0).take (Tryd.prog.cellsOf 3)) = some y0 := hf 0 _ rfl
  have h1 : DataW.trod enc Tryd.prog w base sp held n 3 (([c0, c1, c2, c3, c4].drop 1).take (Tryd.prog.cellsOf 3)) = some y1 := hf 1 _ rfl
  have h2 : DataW.trod enc Tryd.prog w base sp held n 3 (([c0, c1, c2, c3, c4].drop 2).take (Tryd.prog.cellsOf 3)) = some y2 := hf 2 _ rfl
  have h3 : DataW.trod enc Tryd.prog w base sp held n 3 (([c0, c1, c2, c3, c4].drop 3).take (Tryd.prog.cellsOf 3)) = some y3 := hf 3 _ rfl
  have h4 : DataW.trod enc Tryd.prog w base sp held n 3 (([c0, c1, c2, c3, c4].drop 4).take (Tryd.prog.cellsOf 3)) = some y4 := hf 4 _ rfl
  rw [cells3] at h0 h1 h2 h3 h4
  obtain ⟨a0, e0, _, _⟩ := DataW.trod_int Tryd.underlying3 h0
  obtain ⟨a1, e1, _, _⟩ := DataW.trod_int Tryd.underlying3 h1
  obtain ⟨a2, e2, _, _⟩ := DataW.trod_int Tryd.underlying3 h2
  obtain ⟨a3, e3, _, _⟩ := DataW.trod_int Tryd.underlying3 h3
  obtain ⟨a4, e4, _, _⟩ := DataW.trod_int Tryd.underlying3 h4
  simp at e0 e1 e2 e3 e4
  exact ⟨⟨a0, a1, a2, a3, a4⟩, by rw [e0, e1, e2, e3, e4]⟩
theorem op_cells {fuel : Nat} {cs : List Value} {x : DataW H × List MemPlace} (h : DataW.trod enc Tryd.prog w base sp held fuel 30 cs = some x) :
    ∃ o : S30, cs = [.int .i64 o.f0, .int .i64 o.f1, .int .i64 o.f2, .int .i64 o.f3, .int .u64 o.f4] ∧ 0 ≤ o.f4 ∧ o.f4 < 18446744073709551616 := by
  obtain ⟨xs, n, _, _, hl, hlen, hf⟩ := DataW.trod_struct Tryd.underlying30 h
  obtain ⟨c0, c1, c2, c3, c4, rfl⟩ := list5 (hl.trans cells30)
  obtain ⟨y0, y1, y2, y3, y4, rfl⟩ := list5 hlen
  have h0 : DataW.trod enc Tryd.prog w base sp held n 3 (([c0, c1, c2, c3, c4].drop 0).take (Tryd.prog.cellsOf 3)) = some y0 := hf 0 _ rfl
  have h1 : DataW.trod enc Tryd.prog w base sp held n 3 (([c0, c1, c2, c3, c4].drop 1).take (Tryd.prog.cellsOf 3)) = some y1 := hf 1 _ rfl
  have h2 : DataW.trod enc Tryd.prog w base sp held n 3 (([c0, c1, c2, c3, c4].drop 2).take (Tryd.prog.cellsOf 3)) = some y2 := hf 2 _ rfl
  have h3 : DataW.trod enc Tryd.prog w base sp held n 3 (([c0, c1, c2, c3, c4].drop 3).take (Tryd.prog.cellsOf 3)) = some y3 := hf 3 _ rfl
  have h4 : DataW.trod enc Tryd.prog w base sp held n 28 (([c0, c1, c2, c3, c4].drop 4).take (Tryd.prog.cellsOf 28)) = some y4 := hf 4 _ rfl
  rw [cells3] at h0 h1 h2 h3
  rw [cells28] at h4
  obtain ⟨a0, e0, _, _⟩ := DataW.trod_int Tryd.underlying3 h0
  obtain ⟨a1, e1, _, _⟩ := DataW.trod_int Tryd.underlying3 h1
  obtain ⟨a2, e2, _, _⟩ := DataW.trod_int Tryd.underlying3 h2
  obtain ⟨a3, e3, _, _⟩ := DataW.trod_int Tryd.underlying3 h3
  obtain ⟨a4, e4, _, hw⟩ := DataW.trod_int Tryd.underlying28 h4
  simp at e0 e1 e2 e3 e4
  simp [Lit.wf, IntKind.min, IntKind.max, IntKind.signed, IntKind.bits] at hw
  exact ⟨⟨a0, a1, a2, a3, a4⟩, by rw [e0, e1, e2, e3, e4], by show 0 ≤ a4; omega, by show a4 < 18446744073709551616; omega⟩
theorem open_setup {r : Reach} {b0 : Nat} {v : Value} {d : DataW H} {p : List MemPlace} (hv : Value.okWide Tryd.prog w r b0 23 v) (h : DataW.Trod enc Tryd.prog w base sp held 23 v d p) : ∃ s : SU, v = s.val := by
  obtain ⟨cs, rfl, hsz⟩ := okWide_struct Tryd.underlying23 hv
  obtain ⟨fuel, hf⟩ := h
  obtain ⟨s, hs⟩ := setup_cells hf
  refine ⟨s, ?_⟩
  have : cs.toList = [.int .i64 s.ve, .int .i64 s.jo, .int .i64 s.au, .int .i64 s.pe, .int .i64 s.pa] := by simpa [Value.cells] using hs
  obtain ⟨l⟩ := cs
  have h2 : l = [.int .i64 s.ve, .int .i64 s.jo, .int .i64 s.au, .int .i64 s.pe, .int .i64 s.pa] := this
  rw [h2]
  rfl
/-- Operations that came in. -/
theorem open_ops {r : Reach} {b0 : Nat} {v : Value} {d : DataW H} {p : List MemPlace} (hv : Value.okWide Tryd.prog w r b0 24 v) (h : DataW.Trod enc Tryd.prog w base sp held 24 v d p) :
    ∃ (A : Option Addr) (l : List S30) (c : Nat), v = .slice A l.length c ∧ l.length ≤ c ∧ c ≤ maxLen ∧ Kd.C k30 w A l.length l ∧ (∀ o ∈ l, 0 ≤ o.f4 ∧ o.f4 < 18446744073709551616) := by
  obtain ⟨a0, len0, cap0, rfl⟩ := okWide_slice Tryd.underlying24 hv
  obtain ⟨fuel, hf⟩ := h
  rcases open_slice Tryd.underlying24 hf with ⟨hcs, _⟩ | ⟨a, len, cap, m, n, D, Pl, hcs, _, hl, hm, hmm, _, hx⟩
  · simp [Value.cells] at hcs
    obtain ⟨rfl, rfl, rfl⟩ := hcs
    exact ⟨none, [], 0, rfl, Nat.le_refl _, Nat.zero_le _, ⟨rfl, by decide, fun h0 => absurd h0 (by decide)⟩, fun o ho => by cases ho⟩
  · simp [Value.cells] at hcs
    obtain ⟨rfl, rfl, rfl⟩ := hcs
    have hlm : len0 ≤ m := by rw [hmm]; split <;> omega
    haveI : Inhabited S30 := ⟨z30⟩
    obtain ⟨F, hF⟩ := choose_lt (α := S30) (n := len0) (p := fun i o => (∀ j u, [Value.int .i64 o.f0, .int .i64 o.f1, .int .i64 o.f2, .int .i64 o.f3, .int .u64 o.f4][j]? = some u → w.cell? (a.add (i * 5 + j)) = some u) ∧ 0 ≤ o.f4 ∧ o.f4 < 18446744073709551616) (fun i hi => by
      obtain ⟨cs', h1, h2⟩ := hx i (by omega)
      obtain ⟨o, rfl, hw⟩ := op_cells h2
      obtain ⟨_, _, hc⟩ := World.cells?_some h1
      refine ⟨o, fun j u hj => ?_, hw⟩
      have hj5 : j < 5 := by
        have := (List.getElem?_eq_some_iff.1 hj).1
        simpa using this
      have := hc j (by rw [cells30]; exact hj5)
      rw [cells30, Go.Deep.add_add] at this
      rw [this, hj])
    refine ⟨some a, (List.range len0).map F, cap0, by simp, by simpa using hl, hm, ⟨rfl, by simp; exact Nat.le_trans hl (Nat.le_trans hm (by decide)), fun _ => ⟨a, rfl, fun j p hj => ?_⟩⟩, fun o ho => ?_⟩
    · obtain ⟨hjl, hp⟩ := List.getElem?_eq_some_iff.1 hj
      have hjl' : j < len0 := by simpa using hjl
      have hp' : F j = p := by simpa using hp
      subst hp'
      exact ⟨_, rfl, k30_mk w (F j), fun i u hu => (hF j hjl').1 i u hu⟩
    · obtain ⟨i, hi, rfl⟩ := List.mem_map.1 ho
      exact (hF i (List.mem_range.1 hi)).2
/-- Bytes that came in. -/
theorem open_bytes {r : Reach} {b0 : Nat} {v : Value} {d : DataW H} {p : List MemPlace} (hv : Value.okWide Tryd.prog w r b0 31 v) (h : DataW.Trod enc Tryd.prog w base (fun _ => true) held 31 v d p) :
    ∃ (A : Option Addr) (l : List Int) (c : Nat), v = .slice A l.length c ∧ l.length ≤ c ∧ l.length ≤ maxLen ∧ ReadsInt w .u8 A l.length l ∧ Byt l := by
  obtain ⟨a0, len0, cap0, rfl⟩ := okWide_slice Tryd.underlying31 hv
  obtain ⟨z0, w0⟩ : ∃ zs : List Int, (a0 = none ∧ len0 = 0 ∧ cap0 = 0 ∧ zs = []) ∨ ∃ x, a0 = some x ∧ len0 ≤ cap0 ∧ cap0 ≤ maxLen ∧ zs.length = cap0 ∧ (∀ i, i < zs.length → w.cell? (x.add i) = some (.int .u8 (zs.getD i 0))) ∧ ∀ n ∈ zs, (Lit.int .u8 n).wf = true := by
    obtain ⟨fuel, hf⟩ := h
    rcases open_ints Tryd.underlying31 Tryd.underlying5 (by kernel_rfl) hf with ⟨hcs, _⟩ | ⟨x, l, c, zs, hcs, _, hl, hm, hz, _, hcell, hwz⟩
    · simp [Value.cells] at hcs
      obtain ⟨rfl, rfl, rfl⟩ := hcs
      exact ⟨[], .inl ⟨rfl, rfl, rfl, rfl⟩⟩
    · simp [Value.cells] at hcs
      obtain ⟨rfl, rfl, rfl⟩ := hcs
      exact ⟨zs, .inr ⟨_, rfl, hl, hm, by simpa using hz, hcell, hwz⟩⟩
  obtain ⟨l, rfl, hr, hm0, hwf, hc0⟩ := ReadsInt.ofRowC w0
  exact ⟨a0, l, cap0, rfl, hc0, hm0, hr, fun x hx => by
    have := hwf x hx
    simp [Lit.wf, IntKind.min, IntKind.max, IntKind.signed, IntKind.bits] at this
    omega⟩
end
end Go.Proofs.YteapmebmgaggcaaDoor.PRow

namespace Go.Proofs.YteapmebmgaggcaaDoor.PRow
open Go.ChangeShapes Go.WideShapes Go.ChangeAt Go.RowKit
open Go.Proofs.YteapmebmgaggcaaDoor.PW Go.Proofs.YteapmebmgaggcaaDoorW.PrintWords Go.Deep
set_option linter.unusedVariables false

theorem cells49 : Tryd.prog.cellsOf 49 = 3 := by kernel_rfl
theorem cells47 : Tryd.prog.cellsOf 47 = 1 := by kernel_rfl
theorem cells32 : Tryd.prog.cellsOf 32 = 1 := by kernel_rfl
theorem list3 {α : Type} {cs : List α} (h : cs.length = 3) : ∃ c0 c1 c2, cs = [c0, c1, c2] := by
  match cs, h with
  | [c0, c1, c2], _ => exact ⟨c0, c1, c2, rfl⟩
section
variable {H : Type} {enc : TypeId × Value → H} {w : World} {base : Nat} {sp : Nat → Bool} {held : Bool}
/-- Numbers that came in. -/
theorem ints_cells {fuel : Nat} {cs : List Value} {x : DataW H × List MemPlace} (h : DataW.trod enc Tryd.prog w base sp held fuel 47 cs = some x) :
    ∃ (A : Option Addr) (l : List Int) (c : Nat), cs = [.slice A l.length c] ∧ l.length ≤ c ∧ (Kd.int .i64).C w A l.length l ∧ ∀ d ∈ l, d < 9223372036854775808 := by
  rcases open_slice1 Tryd.underlying47 cells3 h with ⟨hcs, _⟩ | ⟨a, len, cap, m, n, V, D, Pl, hcs, _, hl, hm, hmm, _, hx⟩
  · exact ⟨none, [], 0, hcs, Nat.le_refl _, ⟨rfl, by decide, fun h0 => absurd h0 (by decide)⟩, fun o ho => by cases ho⟩
  · have hlm : len ≤ m := by rw [hmm]; split <;> omega
    obtain ⟨F, hF⟩ := choose_lt (α := Int) (n := len) (p := fun i o => w.cell? (a.add i) = some (.int .i64 o) ∧ o < 9223372036854775808) (fun i hi => by
      obtain ⟨h1, h2⟩ := hx i (by omega)
      obtain ⟨o, ho, _, hw⟩ := DataW.trod_int Tryd.underlying3 h2
      simp [Lit.wf, IntKind.min, IntKind.max, IntKind.signed, IntKind.bits] at hw
      have ho' : V i = .int .i64 o := by simpa using ho
      exact ⟨o, by rw [h1, ho'], by omega⟩)
    refine ⟨some a, (List.range len).map F, cap, by simpa using hcs, by simpa using hl, ⟨rfl, by simp; exact Nat.le_trans hl (Nat.le_trans hm (by decide)), fun _ => ⟨a, rfl, fun j p hj => ?_⟩⟩, fun o ho => ?_⟩
    · obtain ⟨hjl, hp⟩ := List.getElem?_eq_some_iff.1 hj
      have hjl' : j < len := by simpa using hjl
      have hp' : F j = p := by simpa using hp
      subst hp'
      refine ⟨[.int .i64 (F j)], rfl, rfl, fun i u hu => ?_⟩
      cases i with
      | zero =>
        obtain rfl : Value.int .i64 (F j) = u := by simpa using hu
        have h9 := (hF j hjl').1
        show w.cell? (a.add (j * 1 + 0)) = _
        rw [Nat.mul_one, Nat.add_zero]
        exact h9
      | succ i => simp at hu
    · obtain ⟨i, hi, rfl⟩ := List.mem_map.1 ho
      exact (hF i (List.mem_range.1 hi)).2
theorem reply_cells {fuel : Nat} {cs : List Value} {x : DataW H × List MemPlace} (h : DataW.trod enc Tryd.prog w base sp held fuel 49 cs = some x) :
    ∃ r : S49, k49.K w r cs ∧ ∀ d ∈ r.f1, d < 9223372036854775808 := by
  obtain ⟨xs, n, _, _, hl, hlen, hf⟩ := DataW.trod_struct Tryd.underlying49 h
  obtain ⟨c0, c1, c2, rfl⟩ := list3 (hl.trans cells49)
  obtain ⟨y0, y1, y2, rfl⟩ := list3 hlen
  have h0 : DataW.trod enc Tryd.prog w base sp held n 32 (([c0, c1, c2].drop 0).take (Tryd.prog.cellsOf 32)) = some y0 := hf 0 _ rfl
  have h1 : DataW.trod enc Tryd.prog w base sp held n 47 (([c0, c1, c2].drop 1).take (Tryd.prog.cellsOf 47)) = some y1 := hf 1 _ rfl
  have h2 : DataW.trod enc Tryd.prog w base sp held n 47 (([c0, c1, c2].drop 2).take (Tryd.prog.cellsOf 47)) = some y2 := hf 2 _ rfl
  rw [cells32] at h0
  rw [cells47] at h1 h2
  obtain ⟨a0, e0, _, _⟩ := DataW.trod_int Tryd.underlying32 h0
  obtain ⟨A1, l1, k1, e1, m1, r1, w1⟩ := ints_cells h1
  obtain ⟨A2, l2, k2, e2, m2, r2, w2⟩ := ints_cells h2
  simp at e0 e1 e2
  exact ⟨⟨a0, l1, l2⟩, by rw [e0, e1, e2]; exact k49_mk w ⟨a0, l1, l2⟩ m1 r1 m2 r2, w1⟩
/-- Answers that came in. -/
theorem open_replies {r : Reach} {b0 : Nat} {v : Value} {d : DataW H} {p : List MemPlace} (hv : Value.okWide Tryd.prog w r b0 43 v) (h : DataW.Trod enc Tryd.prog w base sp held 43 v d p) :
    ∃ (A : Option Addr) (l : List S49) (c : Nat), v = .slice A l.length c ∧ l.length ≤ c ∧ c ≤ maxLen ∧ Kd.C k49 w A l.length l ∧ D63 l := by
  obtain ⟨a0, len0, cap0, rfl⟩ := okWide_slice Tryd.underlying43 hv
  obtain ⟨fuel, hf⟩ := h
  rcases open_slice Tryd.underlying43 hf with ⟨hcs, _⟩ | ⟨a, len, cap, m, n, D, Pl, hcs, _, hl, hm, hmm, _, hx⟩
  · simp [Value.cells] at hcs
    obtain ⟨rfl, rfl, rfl⟩ := hcs
    exact ⟨none, [], 0, rfl, Nat.le_refl _, Nat.zero_le _, ⟨rfl, by decide, fun h0 => absurd h0 (by decide)⟩, fun o ho => by cases ho⟩
  · simp [Value.cells] at hcs
    obtain ⟨rfl, rfl, rfl⟩ := hcs
    have hlm : len0 ≤ m := by rw [hmm]; split <;> omega
    haveI : Inhabited S49 := ⟨z49⟩
    obtain ⟨F, hF⟩ := choose_lt (α := S49) (n := len0) (p := fun i o => (∃ cs', k49.K w o cs' ∧ ∀ j u, cs'[j]? = some u → w.cell? (a.add (i * 3 + j)) = some u) ∧ ∀ d ∈ o.f1, d < 9223372036854775808) (fun i hi => by
      obtain ⟨cs', h1, h2⟩ := hx i (by omega)
      obtain ⟨o, hk, hw⟩ := reply_cells h2
      obtain ⟨hl3, _, hc⟩ := World.cells?_some h1
      refine ⟨o, ⟨cs', hk, fun j u hj => ?_⟩, hw⟩
      have hj3 : j < cs'.length := (List.getElem?_eq_some_iff.1 hj).1
      have hl3' : cs'.length = 3 := by
        obtain ⟨A1, c1, A2, c2, rfl, _⟩ := k49_open hk
        rfl
      have := hc j (by rw [cells49]; omega)
      rw [cells49, Go.Deep.add_add] at this
      rw [this, hj])
    refine ⟨some a, (List.range len0).map F, cap0, by simp, by simpa using hl, hm, ⟨rfl, by simp; exact Nat.le_trans hl (Nat.le_trans hm (by decide)), fun _ => ⟨a, rfl, fun j p hj => ?_⟩⟩, fun o ho => ?_⟩
    · obtain ⟨hjl, hp⟩ := List.getElem?_eq_some_iff.1 hj
      have hjl' : j < len0 := by simpa using hjl
      have hp' : F j = p := by simpa using hp
      subst hp'
      obtain ⟨cs', hk, hc⟩ := (hF j hjl').1
      exact ⟨cs', k49.K_len hk, hk, fun i u hu => hc i u hu⟩
    · obtain ⟨i, hi, rfl⟩ := List.mem_map.1 ho
      exact (hF i (List.mem_range.1 hi)).2
end
end Go.Proofs.YteapmebmgaggcaaDoor.PRow
