import Derived.Test.YteapmebmgaggcaaDoorPb
import Derived.Test.YteapmebmgaggcaaDoorRz
import Derived.Test.YteapmebmgaggcaaDoorRb
import Derived.Test.YteapmebmgaggcaaDoorRc
import Derived.Test.YteapmebmgaggcaaDoorVi
namespace Go.Proofs.YteapmebmgaggcaaDoor.PW
open Go.RowKit Go.Proofs.YteapmebmgaggcaaDoorW.PrintWords Go.Proofs.YteapmebmgaggcaaDoorW.PrintLast Go.Proofs.YteapmebmgaggcaaDoorW.PrintMore
set_option linter.unusedVariables false
set_option linter.unusedSimpArgs false

/-! #### an answer's bytes, told at once -/
theorem rng_succ {α : Type} (n : Nat) (f : Nat → α) : (List.range (n + 1)).map f = f 0 :: (List.range n).map (fun i => f (i + 1)) := by
  rw [List.range_succ_eq_map]; simp [Function.comp_def]
theorem take8_val : ∀ (n : Nat) (l : List Int), takeN 8 n l = if 8 * n ≤ l.length then some ((List.range n).map (fun i => numb ((l.drop (8 * i)).take 8)), l.drop (8 * n)) else none := by
  intro n
  induction n with
  | zero => intro l; simp [takeN]
  | succ n ih =>
    intro l
    rw [takeN]
    by_cases h : 8 ≤ l.length
    · rw [if_pos h, ih, List.length_drop]
      by_cases h2 : 8 * n ≤ l.length - 8
      · have hA : (List.range n).map (fun i => numb (((l.drop 8).drop (8 * i)).take 8)) = (List.range n).map (fun i => numb ((l.drop (8 * (i + 1))).take 8)) := by
          refine List.map_congr_left fun i _ => ?_
          rw [List.drop_drop, show 8 + 8 * i = 8 * (i + 1) by omega]
        have hB : (l.drop 8).drop (8 * n) = l.drop (8 * (n + 1)) := by rw [List.drop_drop, show 8 + 8 * n = 8 * (n + 1) by omega]
        rw [if_pos h2, if_pos (by omega), Option.map_some, hA, hB, rng_succ]
        rfl
      · rw [if_neg h2, if_neg (by omega)]; rfl
    · rw [if_neg h, if_neg (by omega)]
theorem take1_val : ∀ (n : Nat) (l : List Int), takeN 1 n l = if n ≤ l.length then some ((List.range n).map (fun i => numb ((l.drop i).take 1)), l.drop n) else none := by
  intro n
  induction n with
  | zero => intro l; simp [takeN]
  | succ n ih =>
    intro l
    rw [takeN]
    by_cases h : 1 ≤ l.length
    · rw [if_pos h, ih, List.length_drop]
      by_cases h2 : n ≤ l.length - 1
      · have hA : (List.range n).map (fun i => numb (((l.drop 1).drop i).take 1)) = (List.range n).map (fun i => numb ((l.drop (i + 1)).take 1)) := by
          refine List.map_congr_left fun i _ => ?_
          rw [List.drop_drop, show 1 + i = i + 1 by omega]
        have hB : (l.drop 1).drop n = l.drop (n + 1) := by rw [List.drop_drop, show 1 + n = n + 1 by omega]
        rw [if_pos h2, if_pos (by omega), Option.map_some, hA, hB, rng_succ]
        rfl
      · rw [if_neg h2, if_neg (by omega)]; rfl
    · rw [if_neg h, if_neg (by omega)]
theorem numb1 (l : List Int) (m : Nat) (h : m < l.length) : numb ((l.drop m).take 1) = rd l (m : Int) := by
  have e : (l.drop m).take 1 = [l[m]] := by rw [List.drop_eq_getElem_cons h]; rfl
  rw [e]
  simp [numb, rd, h]
/-- how many distances, how many ids -/
def nD (l : List Int) : Nat := (numb ((l.drop 1).take 2)).toNat
def nI (l : List Int) : Nat := (rd l ((3 + 8 * nD l : Nat) : Int)).toNat
def dAt (l : List Int) (i : Nat) : Int := numb ((l.drop (3 + 8 * i)).take 8)
def iAt (l : List Int) (j : Nat) : Int := rd l ((4 + 8 * nD l + j : Nat) : Int)
def repOf (l : List Int) : S49 := ⟨wrap64 (rd l 0), (List.range (nD l)).map (fun i => wrap64 (dAt l i)), (List.range (nI l)).map (fun j => wrap64 (iAt l j))⟩
def greatOf (l : List Int) : Bool := (List.range (nD l)).any (fun i => big (dAt l i))
def longE (l : List Int) : Prop := 4 ≤ l.length ∧ 4 + 8 * nD l ≤ l.length ∧ 4 + 8 * nD l + nI l ≤ l.length
theorem replyS_some (l : List Int) (h : longE l) : replyS l = some (repOf l, greatOf l, l.drop (4 + 8 * nD l + nI l)) := by
  obtain ⟨h1, h2, h3⟩ := h
  unfold replyS
  rw [if_pos (by omega), if_pos (by rw [List.length_drop]; omega), take8_val, List.length_drop, List.length_drop]
  have e0 : (numb ((l.drop 1).take 2)).toNat = nD l := rfl
  rw [e0, if_pos (by omega), Option.bind_some]
  dsimp only
  have hd : ((l.drop 1).drop 2).drop (8 * nD l) = l.drop (3 + 8 * nD l) := by rw [List.drop_drop, List.drop_drop]; congr 1; omega
  have hk : numb ((l.drop (3 + 8 * nD l)).take 1) = rd l ((3 + 8 * nD l : Nat) : Int) := numb1 l _ (by omega)
  rw [hd, if_pos (by rw [List.length_drop]; omega), hk, take1_val]
  have e1 : (rd l ((3 + 8 * nD l : Nat) : Int)).toNat = nI l := rfl
  rw [e1, if_pos (by rw [List.length_drop, List.length_drop]; omega), Option.bind_some]
  have hc : wrap64 (numb (l.take 1)) = wrap64 (rd l 0) := by
    have := numb1 l 0 (by omega)
    rw [List.drop_zero] at this
    rw [this]
    rfl
  rw [hc]
  have hD : ((List.range (nD l)).map (fun i => numb ((((l.drop 1).drop 2).drop (8 * i)).take 8))) = (List.range (nD l)).map (dAt l) := by
    refine List.map_congr_left fun i _ => ?_
    unfold dAt
    rw [List.drop_drop, List.drop_drop, show 1 + (2 + 8 * i) = 3 + 8 * i by omega]
  have hI : ((List.range (nI l)).map (fun j => numb ((((l.drop (3 + 8 * nD l)).drop 1).drop j).take 1))) = (List.range (nI l)).map (iAt l) := by
    refine List.map_congr_left fun j hj => ?_
    have hj' : j < nI l := List.mem_range.1 hj
    unfold iAt
    rw [List.drop_drop, List.drop_drop, numb1 l _ (by omega)]
    congr 2
    omega
  have hE : ((l.drop (3 + 8 * nD l)).drop 1).drop (nI l) = l.drop (4 + 8 * nD l + nI l) := by rw [List.drop_drop, List.drop_drop]; congr 1; omega
  rw [hD, hI, hE]
  unfold repOf greatOf
  rw [List.map_map, List.map_map, List.any_map]
  rfl
theorem replyS_no (l : List Int) (h : ¬ longE l) : replyS l = none := by
  unfold replyS
  by_cases h1 : 1 ≤ l.length
  · rw [if_pos h1]
    by_cases h2 : 2 ≤ (l.drop 1).length
    · rw [if_pos h2, take8_val, List.length_drop, List.length_drop]
      rw [List.length_drop] at h2
      have e0 : (numb ((l.drop 1).take 2)).toNat = nD l := rfl
      rw [e0]
      by_cases h3 : 8 * nD l ≤ l.length - 1 - 2
      · rw [if_pos h3, Option.bind_some]
        dsimp only
        have hd : ((l.drop 1).drop 2).drop (8 * nD l) = l.drop (3 + 8 * nD l) := by rw [List.drop_drop, List.drop_drop]; congr 1; omega
        rw [hd, List.length_drop]
        by_cases h4 : 1 ≤ l.length - (3 + 8 * nD l)
        · have hk : numb ((l.drop (3 + 8 * nD l)).take 1) = rd l ((3 + 8 * nD l : Nat) : Int) := numb1 l _ (by omega)
          rw [if_pos h4, hk, take1_val]
          have e1 : (rd l ((3 + 8 * nD l : Nat) : Int)).toNat = nI l := rfl
          rw [e1, if_neg (by rw [List.length_drop, List.length_drop]; intro h5; exact h ⟨by omega, by omega, by omega⟩)]
          rfl
        · rw [if_neg h4]
      · rw [if_neg h3]; rfl
    · rw [if_neg h2]
  · rw [if_neg h1]
theorem nD_lt {l : List Int} (h : Byt l) : ((nD l : Nat) : Int) = numb ((l.drop 1).take 2) ∧ nD l < 65536 := by
  have := numb2_lt (byt_drop h 1) 2 (by omega)
  unfold nD
  omega
theorem nI_lt {l : List Int} (h : Byt l) : ((nI l : Nat) : Int) = rd l ((3 + 8 * nD l : Nat) : Int) ∧ nI l < 256 := by
  have := rd_byt h ((3 + 8 * nD l : Nat) : Int)
  unfold nI
  omega
end Go.Proofs.YteapmebmgaggcaaDoor.PW

namespace Go.Proofs.YteapmebmgaggcaaDoor.PW
open Go.RowKit Go.Proofs.YteapmebmgaggcaaDoorW.PrintWords Go.Proofs.YteapmebmgaggcaaDoorW.PrintLast Go.Proofs.YteapmebmgaggcaaDoorW.PrintMore
set_option linter.unusedVariables false
set_option linter.unusedSimpArgs false

/-! #### the document's one -/
instance longE_dec (l : List Int) : Decidable (longE l) := by unfold longE; exact inferInstance
theorem rng_snoc {α : Type} (n : Nat) (f : Nat → α) : (List.range n).map f ++ [f n] = (List.range (n + 1)).map f := by simp [List.range_succ]
theorem one_l1 (l : List Int) (hb : Byt l) (hL : longE l) (hm : l.length < 1000000) (code : Int) (ds : List Int) : ∀ (r k j : Nat), nI l = j + r → r < k →
    ringroadref26_one.l1 k l ((nD l : Nat) : Int) ((nI l : Nat) : Int) (j : Int) code ds ((List.range j).map fun i => wrap64 (iAt l i)) =
      some (code, ds, (List.range (nI l)).map (fun i => wrap64 (iAt l i)), ((4 + 8 * nD l + nI l : Nat) : Int), 0) := by
  obtain ⟨h1, h2, h3⟩ := hL
  have e8 : wrap64 (8 * ((nD l : Nat) : Int)) = ((8 * nD l : Nat) : Int) := by rw [wz (by omega) (by omega)]; omega
  have e4 : wrap64 (4 + ((8 * nD l : Nat) : Int)) = ((4 + 8 * nD l : Nat) : Int) := by rw [wz (by omega) (by omega)]; omega
  intro r
  induction r with
  | zero =>
    intro k j hj hk
    obtain ⟨k, rfl⟩ : ∃ q, k = q + 1 := ⟨k - 1, by omega⟩
    obtain rfl : j = nI l := by omega
    have e5 : wrap64 (((4 + 8 * nD l : Nat) : Int) + ((nI l : Nat) : Int)) = ((4 + 8 * nD l + nI l : Nat) : Int) := by rw [wz (by omega) (by omega)]; omega
    rw [ringroadref26_one.l1, if_neg (by omega), e8, e4, e5]
  | succ r ih =>
    intro k j hj hk
    obtain ⟨k, rfl⟩ : ∃ q, k = q + 1 := ⟨k - 1, by omega⟩
    have e5 : wrap64 (((4 + 8 * nD l : Nat) : Int) + (j : Int)) = ((4 + 8 * nD l + j : Nat) : Int) := by rw [wz (by omega) (by omega)]; omega
    have e1 : wrap64 ((j : Int) + 1) = ((j + 1 : Nat) : Int) := by rw [wz (by omega) (by omega)]; omega
    rw [ringroadref26_one.l1, if_pos (by omega), e8, e4, e5, if_pos (by omega), if_pos (by omega), if_pos (by simp; omega), e1]
    have : (List.range j).map (fun i => wrap64 (iAt l i)) ++ [wrap64 (rd l ((4 + 8 * nD l + j : Nat) : Int))] = (List.range (j + 1)).map (fun i => wrap64 (iAt l i)) := rng_snoc j _
    rw [this]
    exact ih k (j + 1) (by omega) (by omega)
def malR : Int × List Int × List Int × Int × Int := (0, [], [], 0, 8)
def finR (l : List Int) : Int × List Int × List Int × Int × Int := ((repOf l).f0, (repOf l).f1, (repOf l).f2, ((4 + 8 * nD l + nI l : Nat) : Int), 0)
theorem one_l0 (l : List Int) (hb : Byt l) (hL : longE l) (hm : l.length < 1000000) : ∀ (r k i : Nat), nD l = i + r → r + nI l + 2 < k → (List.range i).any (fun j => big (dAt l j)) = false →
    ringroadref26_one.l0 k l ((nD l : Nat) : Int) ((nI l : Nat) : Int) (i : Int) (wrap64 (rd l 0)) ((List.range i).map fun j => wrap64 (dAt l j)) =
      some (if greatOf l = true then malR else finR l) := by
  have hL' := hL
  obtain ⟨h1, h2, h3⟩ := hL
  intro r
  induction r with
  | zero =>
    intro k i hi hk hg
    obtain ⟨k, rfl⟩ : ∃ q, k = q + 1 := ⟨k - 1, by omega⟩
    obtain rfl : i = nD l := by omega
    rw [ringroadref26_one.l0, if_neg (by omega)]
    have := one_l1 l hb hL' hm (wrap64 (rd l 0)) ((List.range (nD l)).map fun j => wrap64 (dAt l j)) (nI l) k 0 (by omega) (by omega)
    rw [show ((0 : Nat) : Int) = 0 from rfl] at this
    rw [show (List.range 0).map (fun i => wrap64 (iAt l i)) = [] from rfl] at this
    rw [this]
    have hgr : greatOf l = false := hg
    rw [hgr, if_neg (by simp)]
    rfl
  | succ r ih =>
    intro k i hi hk hg
    obtain ⟨k, rfl⟩ : ∃ q, k = q + 1 := ⟨k - 1, by omega⟩
    have e8 : wrap64 (8 * (i : Int)) = ((8 * i : Nat) : Int) := by rw [wz (by omega) (by omega)]; omega
    have e3 : wrap64 (3 + ((8 * i : Nat) : Int)) = ((3 + 8 * i : Nat) : Int) := by rw [wz (by omega) (by omega)]; omega
    have e11 : wrap64 (11 + ((8 * i : Nat) : Int)) = ((11 + 8 * i : Nat) : Int) := by rw [wz (by omega) (by omega)]; omega
    have e1 : wrap64 ((i : Int) + 1) = ((i + 1 : Nat) : Int) := by rw [wz (by omega) (by omega)]; omega
    have hcut : (l.take (11 + 8 * i)).drop (3 + 8 * i) = (l.drop (3 + 8 * i)).take 8 := by rw [List.drop_take]; congr 1; omega
    have hnum : ringroadref02_Number.f k ((l.take (11 + 8 * i)).drop (3 + 8 * i)) = some (dAt l i) := by
      unfold ringroadref02_Number.f dAt
      rw [hcut, if_pos ⟨by rw [List.length_take]; omega, bytB_of (byt_take (byt_drop hb _) 8)⟩]
    rw [ringroadref26_one.l0, if_pos (by omega), e8, e3, e11, if_pos (by omega), if_pos (by omega), if_pos (by omega), Int.toNat_natCast, Int.toNat_natCast, hnum, Option.bind_some]
    by_cases hbig : dAt l i > 9223372036854775807
    · rw [if_pos hbig]
      have : greatOf l = true := by
        unfold greatOf
        rw [List.any_eq_true]
        exact ⟨i, List.mem_range.2 (by omega), by unfold big; exact decide_eq_true hbig⟩
      rw [this, if_pos rfl]
      rfl
    · rw [if_neg hbig, if_pos (by simp; omega), rng_snoc i (fun j => wrap64 (dAt l j)), e1]
      refine ih k (i + 1) (by omega) (by omega) ?_
      rw [List.range_succ, List.any_append, hg]
      simp [big]
      omega
theorem one_val (l : List Int) (hb : Byt l) (hm : l.length < 1000000) (k : Nat) (hk : 66000 < k) :
    ringroadref26_one.f k l = some (if longE l then (if greatOf l = true then malR else finR l) else (0, [], [], 0, 7)) := by
  have hD := nD_lt hb
  have hI := nI_lt hb
  unfold ringroadref26_one.f
  by_cases h4 : l.length < 4
  · rw [if_pos (by omega), if_neg (fun h : longE l => by have := h.1; omega)]
  · rw [if_neg (by omega), if_pos (by decide), if_pos (by omega)]
    have hcut : (l.take 3).drop 1 = (l.drop 1).take 2 := by rw [List.drop_take]
    have hnum : ringroadref02_Number.f k ((l.take 3).drop 1) = some ((nD l : Nat) : Int) := by
      unfold ringroadref02_Number.f
      rw [hcut, if_pos ⟨by rw [List.length_take]; omega, bytB_of (byt_take (byt_drop hb _) 2)⟩, hD.1]
    rw [hnum, Option.bind_some]
    have e0 : wrap64 ((nD l : Nat) : Int) = ((nD l : Nat) : Int) := wz (by omega) (by omega)
    have e8 : wrap64 (8 * ((nD l : Nat) : Int)) = ((8 * nD l : Nat) : Int) := by rw [wz (by omega) (by omega)]; omega
    have e4 : wrap64 (4 + ((8 * nD l : Nat) : Int)) = ((4 + 8 * nD l : Nat) : Int) := by rw [wz (by omega) (by omega)]; omega
    have e3 : wrap64 (3 + ((8 * nD l : Nat) : Int)) = ((3 + 8 * nD l : Nat) : Int) := by rw [wz (by omega) (by omega)]; omega
    rw [e0, e8, e4, e3]
    by_cases h5 : l.length < 4 + 8 * nD l
    · rw [if_pos (by omega), if_neg (fun h : longE l => by have := h.2.1; omega)]
    · have eI : wrap64 (rd l ((3 + 8 * nD l : Nat) : Int)) = ((nI l : Nat) : Int) := by rw [wr_byt hb, hI.1]
      have e5 : wrap64 (((4 + 8 * nD l : Nat) : Int) + ((nI l : Nat) : Int)) = ((4 + 8 * nD l + nI l : Nat) : Int) := by rw [wz (by omega) (by omega)]; omega
      rw [if_neg (by omega), if_pos (by omega), if_pos (by omega), eI, e5]
      clear eI e5 e0 e8 e4 e3 hnum hcut
      have hIb := hI.2
      have hDb := hD.2
      clear hI hD
      by_cases h6 : l.length < 4 + 8 * nD l + nI l
      · rw [if_pos (by omega), if_neg (fun h : longE l => by have := h.2.2; omega)]
      · have hL : longE l := ⟨by omega, by omega, by omega⟩
        rw [if_neg (by omega), if_pos (by omega), if_pos hL]
        have := one_l0 l hb hL hm (nD l) k 0 (by omega) (by omega) rfl
        rw [show ((0 : Nat) : Int) = 0 from rfl] at this
        rw [show (List.range 0).map (fun j => wrap64 (dAt l j)) = [] from rfl] at this
        exact this
/-- The document's answers are the reader's. -/
theorem refdr_l0 (l : List Int) (hb : Byt l) (hm : l.length < 1000000) : ∀ (n k i : Nat) (acc : List S49), l.length ≤ i + n → i ≤ l.length → n + 66001 < k → acc.length + n < 1000000 →
    ringroadref26_DecodeReplies.l0 k l acc (i : Int) = some (drS (l.drop i).length (l.drop i) acc) := by
  intro n
  induction n using Nat.strongRecOn with
  | _ n ih =>
    intro k i acc hl hi hk ha
    obtain ⟨k, rfl⟩ : ∃ q, k = q + 1 := ⟨k - 1, by omega⟩
    rw [ringroadref26_DecodeReplies.l0]
    by_cases hz : i = l.length
    · rw [if_neg (by omega), drS_done (by rw [List.length_drop]; omega)]
    · have hlen : (l.drop i).length = l.length - i := List.length_drop
      have h0 : ¬ (l.drop i).length = 0 := by omega
      rw [if_pos (by omega), if_pos (by omega), if_pos (by omega), Int.toNat_natCast, one_val (l.drop i) (byt_drop hb i) (by omega) k (by omega), Option.bind_some]
      have hacc : acc.length < 2513169434916 := by omega
      by_cases hL : longE (l.drop i)
      · have hs := replyS_some (l.drop i) hL
        rw [if_pos hL]
        cases hg : greatOf (l.drop i)
        · rw [hg] at hs
          rw [show (if (false : Bool) = true then malR else finR (l.drop i)) = finR (l.drop i) from if_neg (by simp), if_pos (show (finR (l.drop i)).2.2.2.2 = 0 from rfl), if_pos hacc, drS_step h0 hs]
          obtain ⟨q, hq⟩ : ∃ q, q = 4 + 8 * nD (l.drop i) + nI (l.drop i) := ⟨_, rfl⟩
          have hq4 : 4 ≤ q := by rw [hq]; exact Nat.le_trans (Nat.le_add_right 4 _) (Nat.le_add_right _ _)
          have hql : q ≤ l.length - i := by rw [hq, ← hlen]; exact hL.2.2
          have hf : (finR (l.drop i)).2.2.2.1 = (q : Int) := by rw [hq]; rfl
          have hr : (⟨(finR (l.drop i)).1, (finR (l.drop i)).2.1, (finR (l.drop i)).2.2.1⟩ : S49) = repOf (l.drop i) := rfl
          rw [hf, hr, ← hq, List.drop_drop]
          clear hf hr hq hL hs hg h0
          have e : wrap64 ((i : Int) + (q : Int)) = ((i + q : Nat) : Int) := by rw [wz (by omega) (by omega)]; omega
          rw [e]
          have hlen2 : (acc ++ [repOf (l.drop i)]).length = acc.length + 1 := by simp
          have hstep := ih (n - q) (by omega) k (i + q) (acc ++ [repOf (l.drop i)]) (by omega) (by omega) (by omega) (by rw [hlen2]; omega)
          exact hstep
        · rw [hg] at hs
          rw [show (if (true : Bool) = true then malR else finR (l.drop i)) = malR from if_pos rfl, if_neg (show ¬ malR.2.2.2.2 = 0 by decide), drS_great h0 hs]
          rfl
      · rw [if_neg hL, if_neg (by decide), drS_none h0 (replyS_no _ hL)]
theorem refdr_val (l : List Int) (hb : Byt l) (hm : l.length < 100000) (k : Nat) (hk : l.length + 66001 < k) : ringroadref26_DecodeReplies.f k l = some (drS l.length l []) := by
  have := refdr_l0 l hb (by omega) l.length k 0 [] (by omega) (by omega) hk (by simp; omega)
  simpa [ringroadref26_DecodeReplies.f] using this

/-! #### the same answers -/
theorem ints_l0 : ∀ (n k : Nat) (x : List Int) (i : Nat), x.length = i + n → n < k → x.length < 1000000000 → ringroadref01_Ints.l0 k x x (i : Int) = some true := by
  intro n
  induction n with
  | zero =>
    intro k x i hl hk hm
    obtain ⟨k, rfl⟩ : ∃ j, k = j + 1 := ⟨k - 1, by omega⟩
    rw [ringroadref01_Ints.l0, if_neg (by omega)]
  | succ n ih =>
    intro k x i hl hk hm
    obtain ⟨k, rfl⟩ : ∃ j, k = j + 1 := ⟨k - 1, by omega⟩
    have e : wrap64 ((i : Int) + 1) = ((i + 1 : Nat) : Int) := by rw [wz (by omega) (by omega)]; omega
    rw [ringroadref01_Ints.l0, if_pos (by omega), if_pos (by omega), if_pos (by omega), if_pos rfl, e]
    exact ih k x (i + 1) (by omega) (by omega) hm
theorem ints_self (x : List Int) (k : Nat) (hk : x.length < k) (hm : x.length < 1000000000) : ringroadref01_Ints.f k x x = some true := by
  unfold ringroadref01_Ints.f
  rw [if_pos rfl]
  exact ints_l0 x.length k x 0 (by omega) hk hm
theorem replies_l0 (x : List S49) (M : Nat) (hM : M < 1000000000) (hx : ∀ r ∈ x, r.f1.length ≤ M ∧ r.f2.length ≤ M) (hm : x.length < 1000000000) : ∀ (n k i : Nat), x.length = i + n → n + M + 1 < k → ringroadlaw26_Replies.l0 k x x (i : Int) = some true := by
  intro n
  induction n with
  | zero =>
    intro k i hl hk
    obtain ⟨k, rfl⟩ : ∃ j, k = j + 1 := ⟨k - 1, by omega⟩
    rw [ringroadlaw26_Replies.l0, if_neg (by omega)]
  | succ n ih =>
    intro k i hl hk
    obtain ⟨k, rfl⟩ : ∃ j, k = j + 1 := ⟨k - 1, by omega⟩
    have hi : i < x.length := by omega
    have hg : rd_T49 x (i : Int) = x[i] := by simp [rd_T49, hi]
    have hr := hx x[i] (List.getElem_mem hi)
    have e : wrap64 ((i : Int) + 1) = ((i + 1 : Nat) : Int) := by rw [wz (by omega) (by omega)]; omega
    rw [ringroadlaw26_Replies.l0, if_pos (by omega), if_pos (by omega), if_pos (by omega), if_pos rfl, hg, ints_self _ k (by omega) (by omega), Option.bind_some, if_pos (rfl : true = true), ints_self _ k (by omega) (by omega), Option.bind_some, if_pos (rfl : true = true), e]
    exact ih k (i + 1) (by omega) (by omega)
theorem replies_self (x : List S49) (M : Nat) (hM : M < 1000000000) (hx : ∀ r ∈ x, r.f1.length ≤ M ∧ r.f2.length ≤ M) (hm : x.length < 1000000000) (k : Nat) (hk : x.length + M + 1 < k) : ringroadlaw26_Replies.f k x x = some true := by
  unfold ringroadlaw26_Replies.f
  rw [if_pos rfl]
  exact replies_l0 x M hM hx hm x.length k 0 (by omega) hk
/-- What comes out is no longer than what came in. -/
theorem drS_small (L : Nat) : ∀ (n : Nat) (l : List Int) (acc : List S49), l.length ≤ L → (∀ r ∈ acc, r.f1.length ≤ L ∧ r.f2.length ≤ L) → (∀ r ∈ (drS n l acc).1, r.f1.length ≤ L ∧ r.f2.length ≤ L) ∧ (drS n l acc).1.length ≤ acc.length + n := by
  intro n
  induction n with
  | zero => intro l acc hl ha; exact ⟨ha, by simp [drS]⟩
  | succ n ih =>
    intro l acc hl ha
    rw [drS]
    split
    · exact ⟨ha, by dsimp only; omega⟩
    · by_cases hL : longE l
      · rw [replyS_some l hL]
        dsimp only
        split
        · exact ⟨(by intro r hr; cases hr), (by simp)⟩
        · obtain ⟨h1, h2, h3⟩ := hL
          have := ih (l.drop (4 + 8 * nD l + nI l)) (acc ++ [repOf l]) (by rw [List.length_drop]; omega) (by
            intro r hr
            rcases List.mem_append.1 hr with hr | hr
            · exact ha r hr
            · simp at hr
              subst hr
              simp [repOf]
              omega)
          exact ⟨this.1, by have := this.2; simp at this; omega⟩
      · rw [replyS_no l hL]
        exact ⟨(by intro r hr; cases hr), (by simp)⟩
end Go.Proofs.YteapmebmgaggcaaDoor.PW

namespace Go.Proofs.YteapmebmgaggcaaDoor.PW
open Go.RowKit Go.Proofs.YteapmebmgaggcaaDoorW.PrintWords Go.Proofs.YteapmebmgaggcaaDoorW.PrintLast Go.Proofs.YteapmebmgaggcaaDoorW.PrintMore
attribute [local go_sem] max2_int min2_int max_two min_two max_three min_three max_four min_four   -- for this text's walks alone
set_option linter.unusedVariables false
set_option linter.unusedSimpArgs false

attribute [local go_sem high] eqA23 eqA30
theorem ringroadref26_DecodeReplies.callsR (k : Nat) (A0 : Option Addr) (c0 : Nat) (l0 : List Int) (r1 : List (S49)) (r2 : Int) (w : World) (hr0 : Kd.C (Kd.int .u8) w A0 l0.length l0) (hc0 : l0.length ≤ c0) (h : ringroadref26_DecodeReplies.f k l0 = some (r1, r2)) :
    Calls Tryd.prog 20 #[.slice A0 l0.length c0] w fun e w' => ∃ v0_ : Value, e = .returned (.tuple #[v0_, .int .i64 r2]) ∧ Kd.R k49 49 w' w.heap.size (fun _ => True) v0_ r1 ∧ Below w.heap.size w w' :=
  (ringroadref26_DecodeReplies.calls k A0 c0 l0 r1 r2 w hr0 hc0 h).mono fun e w' ⟨v, h1, h2, h3⟩ => ⟨v, h1, Kd.S_R h2, h3⟩

/-! ### ringroadlaw26_WireAnswers: function 7 -/
def ringroadlaw26_WireAnswers.f (k : Nat) (l0 : List Int) : Option (Bool) := (ringroadlaw26_awake.f k).bind fun t273 => (if t273 = true then (if (l0.length : Int) > 3000 then (some true) else ((wire_DecodeReplies.f l0).bind fun bt274 => ((ringroadref26_DecodeReplies.f k l0).bind fun bt278 => ((ringroadlaw26_Replies.f k bt274.1 bt278.1).bind fun t282 => (if t282 = true then (some (bt274.2 == bt278.2)) else (some false)))))) else (some false))
theorem ringroadlaw26_WireAnswers.mono : ∀ a0 k, LeO (ringroadlaw26_WireAnswers.f k a0) (ringroadlaw26_WireAnswers.f (k + 1) a0) := by
 intro a0 k
 unfold ringroadlaw26_WireAnswers.f
 repeat' first
   | (with_reducible exact ringroadlaw26_Replies.mono _ _ _)
   | (with_reducible exact ringroadlaw26_awake.mono _)
   | (with_reducible exact ringroadref26_DecodeReplies.mono _ _)
   | (with_reducible exact LeO.refl _)
   | (with_reducible exact LeO.none _)
   | (with_reducible refine LeO.ite ?_ ?_)
   | (with_reducible refine LeO.bind ?_ (fun _ => ?_))
   | exact ringroadlaw26_Replies.mono _ _ _
   | exact ringroadlaw26_awake.mono _
   | exact ringroadref26_DecodeReplies.mono _ _
   | exact LeO.none _
   | refine LeO.ite ?_ ?_
   | refine LeO.bind ?_ (fun _ => ?_)
set_option maxHeartbeats 8000000 in
set_option maxRecDepth 100000 in
theorem ringroadlaw26_WireAnswers.calls (k : Nat) (A0 : Option Addr) (c0 : Nat) (l0 : List Int) (r : Bool) (hr : r = true) (w : World) (hr0 : Kd.C (Kd.int .u8) w A0 l0.length l0) (hc0 : l0.length ≤ c0) (hN : NeedsOk w) (h : ringroadlaw26_WireAnswers.f k l0 = some r) :
  Calls Tryd.prog 7 #[.slice A0 l0.length c0] w fun e w' => e = .returned (.bool r) ∧ Below w.heap.size w w' := by
 have HN := Aside0.mk hN
 clear hN
 have HR0 := Aside0.mk hr0
 have HC0 := Aside0.mk hc0
 clear hr0 hc0
 have HB := Aside0.mk (Below.refl w.heap.size w)
 have H : ((ringroadlaw26_awake.f k).bind fun t273 => (if t273 = true then (if (l0.length : Int) > 3000 then (some true) else ((wire_DecodeReplies.f l0).bind fun bt274 => ((ringroadref26_DecodeReplies.f k l0).bind fun bt278 => ((ringroadlaw26_Replies.f k bt274.1 bt278.1).bind fun t282 => (if t282 = true then (some (bt274.2 == bt278.2)) else (some false)))))) else (some false))) = some r := h
 clear h
 replace H := Option.bind_eq_some_iff.mp H
 obtain ⟨t273, A20, H⟩ := H
 replace H : (if t273 = true then (if (l0.length : Int) > 3000 then (some true) else ((wire_DecodeReplies.f l0).bind fun bt274 => ((ringroadref26_DecodeReplies.f k l0).bind fun bt278 => ((ringroadlaw26_Replies.f k bt274.1 bt278.1).bind fun t282 => (if t282 = true then (some (bt274.2 == bt278.2)) else (some false)))))) else (some false)) = some r := H
 have A2 := Aside0.mk A20
 clear A20
 by_cases c3 : t273 = true
 ·
  subst c3
  have H1 : (if (l0.length : Int) > 3000 then (some true) else ((wire_DecodeReplies.f l0).bind fun bt274 => ((ringroadref26_DecodeReplies.f k l0).bind fun bt278 => ((ringroadlaw26_Replies.f k bt274.1 bt278.1).bind fun t282 => (if t282 = true then (some (bt274.2 == bt278.2)) else (some false)))))) = some r := by rw [if_pos rfl] at H; exact H
  clear H
  have H := H1
  clear H1
  by_cases c4 : (l0.length : Int) > 3000
  ·
   rw [if_pos c4] at H
   have c4b0 : decide (3000 < (l0.length : Int)) = true := decide_eq_true c4
   have c4b1 : decide (3000 < l0.length) = true := decide_eq_true (by omega)
   clear c4
   obtain rfl := Option.some.inj H
   go_enter Tryd.func7, Tryd.ntmps7
   go_wp2_with (first | ((with_reducible refine gate_callee (f := 9) rfl ?_); refine goesL_ (some 7) rfl rfl Tryd.func9 (by kernel_rfl) rfl #[] rfl (by (try simp only [List.map_toArray, List.map_cons, List.map_nil]); first | done | rfl | (simp only [List.length_drop, List.length_take]; rfl)) ?_; (with_reducible refine (ringroadlaw26_awake.calls k _ ?sideN A2.out).mono ?_); (case sideN => exact needs_now HN (by repeat (first | (with_reducible first | exact HB.out | apply below_alloc | apply pw_below_drewN | apply below_drew1) | exact HB.out))); rintro e w5 ⟨rfl, hb⟩; refine ⟨_, rfl, ?_⟩; have n0_ := Aside0.mk (below_step (by repeat (first | (with_reducible first | exact HB.out | apply below_alloc | apply pw_below_drewN | apply below_drew1) | exact HB.out)) hb); clear HB; have HB := n0_; clear n0_; (try clear hb); (try clear hb2); (try clear hk); (try clear hi)))
   go_ret
   exact ⟨by first | rfl | (simp [errW_none, errW_some] <;> rfl) | (simp [*, errW_none, errW_some] <;> rfl), by repeat (first | (with_reducible first | exact HB.out | apply below_alloc | apply pw_below_drewN | apply below_drew1) | exact HB.out)⟩
  ·
   rw [if_neg c4] at H
   have c4b0 : decide (3000 < (l0.length : Int)) = false := decide_eq_false c4
   have c4b1 : decide (3000 < l0.length) = false := decide_eq_false (by omega)
   clear c4
   replace H := Option.bind_eq_some_iff.mp H
   obtain ⟨⟨t274, t275⟩, A60, H⟩ := H
   replace H : ((ringroadref26_DecodeReplies.f k l0).bind fun bt278 => ((ringroadlaw26_Replies.f k t274 bt278.1).bind fun t282 => (if t282 = true then (some (t275 == bt278.2)) else (some false)))) = some r := H
   have A6 := Aside0.mk A60
   clear A60
   replace H := Option.bind_eq_some_iff.mp H
   obtain ⟨⟨t278, t279⟩, A70, H⟩ := H
   replace H : ((ringroadlaw26_Replies.f k t274 t278).bind fun t282 => (if t282 = true then (some (t275 == t279)) else (some false))) = some r := H
   have A7 := Aside0.mk A70
   clear A70
   replace H := Option.bind_eq_some_iff.mp H
   obtain ⟨t282, A80, H⟩ := H
   replace H : (if t282 = true then (some (t275 == t279)) else (some false)) = some r := H
   have A8 := Aside0.mk A80
   clear A80
   by_cases c9 : t282 = true
   ·
    subst c9
    have H1 : (some (t275 == t279)) = some r := by rw [if_pos rfl] at H; exact H
    clear H
    have H := H1
    clear H1
    obtain rfl := Option.some.inj H
    go_enter Tryd.func7, Tryd.ntmps7
    go_wp2_with (first | ((with_reducible refine gate_callee (f := 9) rfl ?_); refine goesL_ (some 7) rfl rfl Tryd.func9 (by kernel_rfl) rfl #[] rfl (by (try simp only [List.map_toArray, List.map_cons, List.map_nil]); first | done | rfl | (simp only [List.length_drop, List.length_take]; rfl)) ?_; (with_reducible refine (ringroadlaw26_awake.calls k _ ?sideN A2.out).mono ?_); (case sideN => exact needs_now HN (by repeat (first | (with_reducible first | exact HB.out | apply below_alloc | apply pw_below_drewN | apply below_drew1) | exact HB.out))); rintro e w10 ⟨rfl, hb⟩; refine ⟨_, rfl, ?_⟩; have n0_ := Aside0.mk (below_step (by repeat (first | (with_reducible first | exact HB.out | apply below_alloc | apply pw_below_drewN | apply below_drew1) | exact HB.out)) hb); clear HB; have HB := n0_; clear n0_; (try clear hb); (try clear hb2); (try clear hk); (try clear hi)) | ((with_reducible refine gate_callee (f := 19) rfl ?_); refine goesL_ (some 14) rfl rfl Tryd.func19 (by kernel_rfl) rfl #[.slice A0 l0.length c0] rfl (by (try simp only [List.map_toArray, List.map_cons, List.map_nil]); first | done | rfl | (simp only [List.length_drop, List.length_take]; rfl)) ?_; (with_reducible refine (wire_DecodeReplies.calls _ _ l0 t274 t275 _ ?side1 ?side2 A6.out).mono ?_); (case side1 => repeat (first | exact (Kd.C_below HR0.out HB.out) | (with_reducible refine Kd.C_alloc ?_ _) | (with_reducible refine Kd.C_drewN ?_ _) | (with_reducible refine Kd.C_drew ?_))); (case side2 => exact HC0.out); rintro e w11 ⟨v276, rfl, ho0, hb⟩; refine ⟨_, rfl, ?_⟩; have n0_ := Aside0.mk (Kd.R_lower ho0 (below_size (by repeat (first | (with_reducible first | exact HB.out | apply below_alloc | apply pw_below_drewN | apply below_drew1) | exact HB.out)))); have n1_ := Aside0.mk (below_step (by repeat (first | (with_reducible first | exact HB.out | apply below_alloc | apply pw_below_drewN | apply below_drew1) | exact HB.out)) hb); clear HB; have HO277 := n0_; have HB := n1_; clear n0_ n1_; (try clear hb); (try clear hb2); (try clear hk); (try clear hi); (try clear ho0)) | ((with_reducible refine gate_callee (f := 20) rfl ?_); refine goesL_ (some 19) rfl rfl Tryd.func20 (by kernel_rfl) rfl #[.slice A0 l0.length c0] rfl (by (try simp only [List.map_toArray, List.map_cons, List.map_nil]); first | done | rfl | (simp only [List.length_drop, List.length_take]; rfl)) ?_; (with_reducible refine (ringroadref26_DecodeReplies.callsR k _ _ l0 t278 t279 _ ?side1 ?side2 A7.out).mono ?_); (case side1 => repeat (first | exact (Kd.C_below HR0.out HB.out) | (with_reducible refine Kd.C_alloc ?_ _) | (with_reducible refine Kd.C_drewN ?_ _) | (with_reducible refine Kd.C_drew ?_))); (case side2 => exact HC0.out); rintro e w12 ⟨v280, rfl, ho0, hb⟩; refine ⟨_, rfl, ?_⟩; have n0_ := Aside0.mk (Kd.R_elder' (by (with_reducible repeat (first | apply Kd.R_alloc | apply Kd.R_drewN | apply Kd.R_drew)); exact HO277.out) (Kd.R_base ho0) hb); have n1_ := Aside0.mk (Kd.R_lower (Kd.R_new' ho0 (Kd.R_lt (by (with_reducible repeat (first | apply Kd.R_alloc | apply Kd.R_drewN | apply Kd.R_drew)); exact HO277.out))) (below_size (by repeat (first | (with_reducible first | exact HB.out | apply below_alloc | apply pw_below_drewN | apply below_drew1) | exact HB.out)))); have n2_ := Aside0.mk (below_step (by repeat (first | (with_reducible first | exact HB.out | apply below_alloc | apply pw_below_drewN | apply below_drew1) | exact HB.out)) hb); clear HO277; clear HB; have HO277 := n0_; have HO281 := n1_; have HB := n2_; clear n0_ n1_ n2_; (try clear hb); (try clear hb2); (try clear hk); (try clear hi); (try clear ho0); obtain ⟨Ao13, co13, eo13⟩ := Kd.R_slice HO277.out; subst eo13; obtain ⟨Ao14, co14, eo14⟩ := Kd.R_slice HO281.out; subst eo14) | ((with_reducible refine gate_callee (f := 21) rfl ?_); refine goesL_ (some 24) rfl rfl Tryd.func21 (by kernel_rfl) rfl #[.slice Ao13 t274.length co13, .slice Ao14 t278.length co14] rfl (by (try simp only [List.map_toArray, List.map_cons, List.map_nil]); first | done | rfl | (simp only [List.length_drop, List.length_take]; rfl)) ?_; (with_reducible refine (ringroadlaw26_Replies.calls k _ _ t274 _ _ t278 true _ ?side1 ?side2 ?side3 ?side4 A8.out).mono ?_); (case side1 => repeat (first | exact (Kd.R_reads' HO277.out).2.2 | (with_reducible refine Kd.C_alloc ?_ _) | (with_reducible refine Kd.C_drewN ?_ _) | (with_reducible refine Kd.C_drew ?_))); (case side2 => exact (Kd.R_reads' HO277.out).2.1); (case side3 => repeat (first | exact (Kd.R_reads' HO281.out).2.2 | (with_reducible refine Kd.C_alloc ?_ _) | (with_reducible refine Kd.C_drewN ?_ _) | (with_reducible refine Kd.C_drew ?_))); (case side4 => exact (Kd.R_reads' HO281.out).2.1); rintro e w15 ⟨rfl, hb⟩; refine ⟨_, rfl, ?_⟩; have n0_ := Aside0.mk (Kd.R_below (by (with_reducible repeat (first | apply Kd.R_alloc | apply Kd.R_drewN | apply Kd.R_drew)); exact HO277.out) hb); have n1_ := Aside0.mk (Kd.R_below (by (with_reducible repeat (first | apply Kd.R_alloc | apply Kd.R_drewN | apply Kd.R_drew)); exact HO281.out) hb); have n2_ := Aside0.mk (below_step (by repeat (first | (with_reducible first | exact HB.out | apply below_alloc | apply pw_below_drewN | apply below_drew1) | exact HB.out)) hb); clear HO277; clear HO281; clear HB; have HO277 := n0_; have HO281 := n1_; have HB := n2_; clear n0_ n1_ n2_; (try clear hb); (try clear hb2); (try clear hk); (try clear hi)))
    go_ret
    exact ⟨by first | rfl | (simp [errW_none, errW_some] <;> rfl) | (simp [*, errW_none, errW_some] <;> rfl), by repeat (first | (with_reducible first | exact HB.out | apply below_alloc | apply pw_below_drewN | apply below_drew1) | exact HB.out)⟩
   ·
    rw [if_neg c9] at H; cases (Option.some.inj H).trans hr
 ·
  rw [if_neg c3] at H; cases (Option.some.inj H).trans hr

end Go.Proofs.YteapmebmgaggcaaDoor.PW
