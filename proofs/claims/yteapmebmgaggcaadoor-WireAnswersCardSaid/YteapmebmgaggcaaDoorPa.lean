import Derived.Test.YteapmebmgaggcaaDoorVh
import Derived.Test.YteapmebmgaggcaaDoorVg
import Derived.Lib.Bytes
namespace Go.Proofs.YteapmebmgaggcaaDoor.PW
open Go.RowKit Go.Proofs.YteapmebmgaggcaaDoorW.PrintWords Go.Proofs.YteapmebmgaggcaaDoorW.PrintLast Go.Proofs.YteapmebmgaggcaaDoorW.PrintMore
set_option linter.unusedVariables false
set_option linter.unusedSimpArgs false

/-! #### bytes -/
theorem wz {n : Int} (h0 : 0 ≤ n) (h1 : n < 9223372036854775808) : wrap64 n = n := by unfold wrap64; omega
theorem rd_byt {l : List Int} (h : Byt l) (i : Int) : 0 ≤ rd l i ∧ rd l i < 256 := by
  unfold rd
  rw [List.getD_eq_getElem?_getD]
  rcases Nat.lt_or_ge i.toNat l.length with hi | hi
  · rw [List.getElem?_eq_getElem hi]; exact h _ (List.getElem_mem hi)
  · rw [List.getElem?_eq_none hi]; exact ⟨by decide, by decide⟩
theorem wr_byt {l : List Int} (h : Byt l) (i : Int) : wrap64 (rd l i) = rd l i := wz (rd_byt h i).1 (by have := (rd_byt h i).2; omega)
theorem byt_take {l : List Int} (h : Byt l) (n : Nat) : Byt (l.take n) := fun x hx => h x (List.mem_of_mem_take hx)
theorem byt_drop {l : List Int} (h : Byt l) (n : Nat) : Byt (l.drop n) := fun x hx => h x (List.mem_of_mem_drop hx)
theorem bytB_of {l : List Int} (h : Byt l) : bytB l = true := bytB_iff.2 h
theorem nums_back {xs : List Int} (h : Byt xs) : (Lib.bytesOf xs).map (fun b => (b.toNat : Int)) = xs := by
  induction xs with
  | nil => rfl
  | cons x r ih =>
    have hx := h x (by simp)
    have hr : Byt r := fun y hy => h y (by simp [hy])
    have h2 := ih hr
    unfold Lib.bytesOf at h2 ⊢
    rw [List.map_cons, List.map_cons, h2]
    congr 1
    have : (UInt8.ofNat x.toNat).toNat = x.toNat := by simp; omega
    rw [this]; omega
theorem nums_same {xs ys : List Int} (hx : Byt xs) (hy : Byt ys) : (strOfNums xs).toList = (strOfNums ys).toList ↔ xs = ys := by
  constructor
  · intro h
    rw [Lib.strOfNums_toList, Lib.strOfNums_toList] at h
    rw [← nums_back hx, ← nums_back hy, h]
  · rintro rfl; rfl
theorem first3 {xs : List Int} (hx : Byt xs) : (strOfNums xs).toList = [82, 82, 1] ↔ xs = [82, 82, 1] := by
  have h3 : (strOfNums [82, 82, 1]).toList = [82, 82, 1] := by rw [Lib.strOfNums_toList]; rfl
  rw [← h3]
  exact nums_same hx (by intro y hy; simp at hy; omega)
theorem mn_take (l : List Int) : l.take ((mn 12 (l.length : Int)) : Int).toNat = l.take 12 := by
  unfold mn
  split
  · rw [List.take_of_length_le (by omega), List.take_of_length_le (by omega)]
  · rfl
theorem mn_drop (l : List Int) : l.drop ((mn 12 (l.length : Int)) : Int).toNat = l.drop 12 := by
  unfold mn
  split
  · rw [List.drop_of_length_le (by omega), List.drop_of_length_le (by omega)]
  · rfl

/-! #### a piece, and the pieces -/
def opAt (l : List Int) : S30 :=
  if l.length < 12 then z30
  else if mayB ⟨rd l 0, rd l 1, rd l 2, rd l 3, numb ((l.drop 4).take 8)⟩ = true then ⟨rd l 0, rd l 1, rd l 2, rd l 3, numb ((l.drop 4).take 8)⟩ else z30
def tup (s : S30) : Int × Int × Int × Int × Int := (s.f0, s.f1, s.f2, s.f3, s.f4)
theorem operation_val (l : List Int) (hb : Byt l) : wire_operation.f l = some (tup (opAt l)) := by
  unfold wire_operation.f opAt
  by_cases h : l.length < 12
  · rw [if_pos (show (l.length : Int) < 12 by omega), if_pos h]; rfl
  · rw [if_neg (show ¬ (l.length : Int) < 12 by omega), if_neg h, if_pos (show (4 : Int) ≤ (l.length : Int) by omega)]
    have hg : octet_Get.f (l.drop 4) = some (numb ((l.drop 4).take 8)) := by
      unfold octet_Get.f
      rw [if_pos ⟨by rw [List.length_drop]; omega, bytB_of (byt_drop hb 4)⟩]
    rw [hg, Option.bind_some, if_pos (show (0 : Int) < (l.length : Int) by omega), if_pos (show (1 : Int) < (l.length : Int) by omega), if_pos (show (2 : Int) < (l.length : Int) by omega), if_pos (show (3 : Int) < (l.length : Int) by omega)]
    rw [wr_byt hb, wr_byt hb, wr_byt hb, wr_byt hb]
    unfold wire_May.f
    rw [Option.bind_some]
    split <;> rfl
def pieces : Nat → List Int → List S30
  | 0, _ => []
  | n + 1, l => if l.length = 0 then [] else opAt (l.take 12) :: pieces n (l.drop 12)
theorem tup_eta (s : S30) : (⟨(tup s).1, (tup s).2.1, (tup s).2.2.1, (tup s).2.2.2.1, (tup s).2.2.2.2⟩ : S30) = s := rfl
theorem dec_l0 : ∀ (n k : Nat) (x6 : List S30) (x7 : List Int) (s0 s1 s2 s3 s4 : Int), Byt x7 → x7.length ≤ n → n < k → x6.length + n < 3518437208883 →
    wire_Decode.l0 k x6 x7 s0 s1 s2 s3 s4 = some (s0, s1, s2, s3, s4, x6 ++ pieces n x7, 0) := by
  intro n
  induction n with
  | zero =>
    intro k x6 x7 s0 s1 s2 s3 s4 hb hn hk hs
    obtain ⟨k, rfl⟩ : ∃ j, k = j + 1 := ⟨k - 1, by omega⟩
    have hz : x7.length = 0 := by omega
    unfold wire_Decode.l0
    rw [if_neg (by omega)]
    simp [pieces]
  | succ n ih =>
    intro k x6 x7 s0 s1 s2 s3 s4 hb hn hk hs
    obtain ⟨k, rfl⟩ : ∃ j, k = j + 1 := ⟨k - 1, by omega⟩
    unfold wire_Decode.l0
    by_cases hz : x7.length = 0
    · rw [if_neg (by omega)]
      simp [pieces, hz]
    · rw [if_pos (by omega), if_pos (by unfold mn; split <;> omega), if_pos (by unfold mn; split <;> omega), mn_take, operation_val _ (byt_take hb 12), Option.bind_some, if_pos (by omega), mn_drop, tup_eta]
      rw [ih k _ _ s0 s1 s2 s3 s4 (byt_drop hb 12) (by rw [List.length_drop]; omega) (by omega) (by simp; omega)]
      simp [pieces, hz]
def hdOk (l : List Int) : Bool := decide (l.take 3 = [82, 82, 1]) && okS ⟨rd l 3, rd l 4, rd l 5, rd l 6, rd l 7⟩
def decSpec (l : List Int) : Int × Int × Int × Int × Int × List S30 × Int :=
  if l.length > 4096 then (0, 0, 0, 0, 0, [], 9) else if l.length < 8 then (0, 0, 0, 0, 0, [], 7)
  else if hdOk l = true then (rd l 3, rd l 4, rd l 5, rd l 6, rd l 7, pieces l.length (l.drop 8), 0) else (0, 0, 0, 0, 0, [], 8)
theorem decode_val (l : List Int) (hb : Byt l) (k : Nat) (hk : l.length + 1 < k) : wire_Decode.f k l = some (decSpec l) := by
  unfold wire_Decode.f decSpec
  by_cases h1 : l.length > 4096
  · rw [if_pos (show (l.length : Int) > 4096 by omega), if_pos h1]
  · rw [if_neg (show ¬ (l.length : Int) > 4096 by omega), if_neg h1]
    by_cases h2 : l.length < 8
    · rw [if_pos (show (l.length : Int) < 8 by omega), if_pos h2]
    · rw [if_neg (show ¬ (l.length : Int) < 8 by omega), if_neg h2]
      rw [if_pos (show (3 : Int) < (l.length : Int) by omega), if_pos (show (4 : Int) < (l.length : Int) by omega), if_pos (show (5 : Int) < (l.length : Int) by omega), if_pos (show (6 : Int) < (l.length : Int) by omega), if_pos (show (7 : Int) < (l.length : Int) by omega)]
      simp only [wr_byt hb, first3 (byt_take hb 3)]
      obtain ⟨k, rfl⟩ : ∃ j, k = j + 1 := ⟨k - 1, by omega⟩
      unfold hdOk wire_Setup.f
      by_cases h3 : l.take 3 = [82, 82, 1]
      · rw [if_pos h3, Option.bind_some]
        rw [wire_Decode.j0]
        cases h4 : okS ⟨rd l 3, rd l 4, rd l 5, rd l 6, rd l 7⟩
        · simp
        · rw [if_neg (by simp), if_pos (by omega), dec_l0 l.length k [] (l.drop 8) _ _ _ _ _ (byt_drop hb 8) (by rw [List.length_drop]; omega) (by omega) (by simp; omega)]
          simp [h3]
      · rw [if_neg h3]
        rw [wire_Decode.j0]
        simp [h3]

/-! #### the other way -/
def lo8 (l : List Int) : List Int := l.map (· % 256)
theorem laid_l0 : ∀ (n k : Nat) (a l : List Int) (i : Nat), l.length = i + n → n < k → a.length + n < 140737488355328 → l.length < 1000000000 →
    wire_laid.l0 k a l (l.length : Int) (i : Int) = some (a ++ lo8 (l.drop i)) := by
  intro n
  induction n with
  | zero =>
    intro k a l i hl hk ha hm
    obtain ⟨k, rfl⟩ : ∃ j, k = j + 1 := ⟨k - 1, by omega⟩
    unfold wire_laid.l0
    rw [if_neg (by omega), List.drop_of_length_le (by omega)]
    simp [lo8]
  | succ n ih =>
    intro k a l i hl hk ha hm
    obtain ⟨k, rfl⟩ : ∃ j, k = j + 1 := ⟨k - 1, by omega⟩
    unfold wire_laid.l0
    have hi : i < l.length := by omega
    have e : wrap64 ((i : Int) + 1) = ((i + 1 : Nat) : Int) := by rw [wz (by omega) (by omega)]; omega
    have hr : rd l (i : Int) = l[i] := by simp [rd, hi]
    rw [if_pos (by omega), if_pos (by omega), if_pos (by omega), if_pos (by omega), e, hr, ih k _ l (i + 1) (by omega) (by omega) (by simp; omega) hm, List.drop_eq_getElem_cons hi]
    simp only [lo8, List.map_cons, List.append_assoc, List.cons_append, List.nil_append]
theorem laid_val (a l : List Int) (k : Nat) (hk : l.length < k) (ha : a.length + l.length < 1000000000) : wire_laid.f k a l = some (a ++ lo8 l) := by
  unfold wire_laid.f
  have := laid_l0 l.length k a l 0 (by omega) hk (by omega) (by omega)
  simpa using this
def opB (o : S30) : List Int := [o.f0 % 256, o.f1 % 256, o.f2 % 256, o.f3 % 256] ++ low 8 o.f4
def opsB (l : List S30) : List Int := l.flatMap opB
theorem opB_length (o : S30) : (opB o).length = 12 := by simp [opB, low_length]
theorem opsB_length (l : List S30) : (opsB l).length = 12 * l.length := by
  induction l with
  | nil => rfl
  | cons o r ih =>
    unfold opsB at ih ⊢
    rw [List.flatMap_cons, List.length_append, ih, opB_length]
    simp; omega
def U64s (l : List S30) : Prop := ∀ o ∈ l, 0 ≤ o.f4 ∧ o.f4 < 18446744073709551616
theorem put8 (l : List Int) (v : Int) (hl : l.length ≤ 1000000) (h0 : 0 ≤ v) (h1 : v < 18446744073709551616) : octet_Put.f l 8 v = some (l ++ low 8 v) := by
  unfold octet_Put.f
  rw [if_pos ⟨hl, h0, h1⟩]
  rfl
theorem rdT (l : List S30) (i : Nat) (hi : i < l.length) : rd_T30 l (i : Int) = l[i] := by simp [rd_T30, hi]
theorem enc_l0 : ∀ (n k : Nat) (a : List Int) (l : List S30) (i : Nat), l.length = i + n → n + 4 < k → a.length + 12 * n ≤ 1000000 → l.length < 1000000000 → U64s l →
    wire_Encode.l0 k a l (l.length : Int) (i : Int) = some (a ++ opsB (l.drop i), 0) := by
  intro n
  induction n with
  | zero =>
    intro k a l i hl hk ha hbig hu
    obtain ⟨k, rfl⟩ : ∃ j, k = j + 1 := ⟨k - 1, by omega⟩
    unfold wire_Encode.l0
    rw [if_neg (by omega), List.drop_of_length_le (by omega)]
    simp [opsB]
  | succ n ih =>
    intro k a l i hl hk ha hbig hu
    obtain ⟨k, rfl⟩ : ∃ j, k = j + 1 := ⟨k - 1, by omega⟩
    have hi : i < l.length := by omega
    have hm := hu l[i] (List.getElem_mem hi)
    have e : wrap64 ((i : Int) + 1) = ((i + 1 : Nat) : Int) := by rw [wz (by omega) (by omega)]; omega
    unfold wire_Encode.l0
    rw [if_pos (by omega), if_pos (by omega), if_pos (by omega), rdT l i hi]
    rw [laid_val a _ k (by simp; omega) (by simp; omega), Option.bind_some, put8 _ _ (by simp [lo8]; omega) hm.1 hm.2, Option.bind_some, e]
    rw [ih k _ l (i + 1) (by omega) (by omega) (by simp [lo8, low_length]; omega) hbig hu, List.drop_eq_getElem_cons hi]
    simp only [opsB, opB, lo8, List.flatMap_cons, List.map_cons, List.map_nil, List.append_assoc, List.cons_append, List.nil_append]
def mayAll (l : List S30) : Bool := l.all fun o => mayB (opOf o)
def headB (s : SU) : List Int := [82, 82, 1, s.ve % 256, s.jo % 256, s.au % 256, s.pe % 256, s.pa % 256]
def encSpec (s : SU) (l : List S30) : List Int × Int :=
  if okS s = true ∧ mayAll l = true then (if l.length > 340 then ([], 9) else (headB s ++ opsB l, 0)) else ([], 1)
theorem encode_val (s : SU) (l : List S30) (hu : U64s l) (k : Nat) (hk : l.length + 10 < k) : wire_Encode.f k s.ve s.jo s.au s.pe s.pa l = some (encSpec s l) := by
  unfold wire_Encode.f encSpec wire_Setup.f api_Op_28.f
  obtain ⟨k, rfl⟩ : ∃ j, k = j + 1 := ⟨k - 1, by omega⟩
  rw [Option.bind_some, Option.bind_some]
  rw [wire_Encode.j0, wire_Encode.j0]
  have es : (⟨s.ve, s.jo, s.au, s.pe, s.pa⟩ : SU) = s := rfl
  rw [es]
  unfold mayAll
  cases h1 : okS s
  · simp
  · cases h2 : l.all fun o => mayB (opOf o)
    · simp
    · rw [if_pos (rfl : true = true), if_neg (show ¬ ((!true) = true) by simp), if_pos (show true = true ∧ true = true from ⟨rfl, rfl⟩)]
      by_cases h3 : l.length > 340
      · rw [if_pos (show (l.length : Int) > 340 by omega), if_pos h3]
      · rw [if_neg (show ¬ (l.length : Int) > 340 by omega), if_neg h3, laid_val _ _ k (by simp; omega) (by simp), Option.bind_some]
        have := enc_l0 l.length k ([82, 82, 1] ++ lo8 [s.ve, s.jo, s.au, s.pe, s.pa]) l 0 (by omega) (by omega) (by simp [lo8]; omega) (by omega) hu
        rw [show ((0 : Nat) : Int) = 0 from rfl] at this
        rw [this]
        simp [headB, lo8]
end Go.Proofs.YteapmebmgaggcaaDoor.PW
