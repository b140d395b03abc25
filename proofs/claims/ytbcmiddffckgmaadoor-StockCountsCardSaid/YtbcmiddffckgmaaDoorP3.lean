/- The plain law of a stock: what Take, Return, Calibrate and Replace make of a right stock. -/
import Derived.Test.YtbcmiddffckgmaaDoorP2
set_option linter.unusedVariables false
set_option linter.unusedSimpArgs false
set_option linter.unnecessarySimpa false
namespace Go.Proofs.YtbcmiddffckgmaaDoor.Am
open Go
theorem takeE_zero {most l who n} (h : takeE most l who n = 0) : SOK most l ∧ nameF who = 0 ∧ heldI who l = [] ∧ fewE (freeS most l) n = 0 := by
  unfold takeE at h
  split at h
  · rename_i h1; exact absurd h h1
  · rename_i h1
    have h1' : namedE most l who = 0 := by simpa using h1
    split at h
    · cases h
    · rename_i h2
      refine ⟨chkS_zero.1 (namedE_chk h1'), ?_, ?_, h⟩
      · unfold namedE at h1'
        rw [if_neg (by simp [namedE_chk (show namedE most l who = 0 by simpa using h1)])] at h1'
        exact h1'
      · exact List.eq_nil_of_length_eq_zero (by unfold heldI; omega)
theorem nameF_ok {who} (h : nameF who = 0) : letF who = 0 ∧ who.size ≠ 0 := by
  unfold nameF at h
  unfold letF
  cases ha : allLow who
  · rw [ha] at h; simp at h
  · rw [ha, if_neg (by simp)] at h
    rw [if_neg (by simp)]
    split at h
    · cases h
    · rename_i h1
      split at h
      · cases h
      · rename_i h2
        rw [if_neg h2]
        exact ⟨rfl, h1⟩
theorem letF_size {s} (h : letF s = 0) : s.size ≤ maxL := by
  unfold letF at h
  have hm : 24 ≤ maxL := by decide
  split at h
  · cases h
  · split at h
    · cases h
    · omega
theorem SOK.who_ {most l} (h : SOK most l) : ∀ b ∈ l, b.who.size ≤ maxL := fun b hb => by
  obtain ⟨i, hi⟩ := List.mem_iff_getElem?.1 hb
  exact letF_size (h.blk i b hi).2.2.2.1
theorem letF_empty : letF ByteArray.empty = 0 := by kernel_rfl
theorem size_empty {s : ByteArray} : s.size = 0 ↔ s = ByteArray.empty := (empty_iff s).symm
/-- What Take takes. -/
structure Took (most : Int) (l : List Blk) (n : Int) (O : List Nat) : Prop where
  sorted : O.Pairwise (· < ·)
  free : ∀ i ∈ O, i ∈ frees most l
  sum : tot (lens l) O = n
  ne : O ≠ []
  le : O.length ≤ l.length
theorem Took.lt {most l n O} (h : Took most l n O) {i} (hi : i ∈ O) : i < l.length := frees_mem (h.free i hi)
theorem getD_get {α : Type} {l : List α} {i : Nat} {d x : α} (h : l[i]? = some x) : l.getD i d = x := by rw [List.getD_eq_getElem?_getD, h]; rfl
theorem lens_getD {l : List Blk} {i : Nat} : (lens l).getD i 0 = lenAt l i := by
  unfold lens lenAt
  rw [List.getD_eq_getElem?_getD, List.getElem?_map]
  cases l[i]? <;> rfl
theorem takeO_le (most : Int) (l : List Blk) (n : Int) : (takeO most l n).length ≤ l.length := by
  unfold takeO
  rw [List.length_map]
  exact Nat.le_trans fewL_len (by rw [freeS_len]; exact frees_len)
theorem took {most l who n} (h : takeE most l who n = 0) : Took most l n (takeO most l n) := by
  obtain ⟨h1, h2, h3, h4⟩ := takeE_zero h
  obtain ⟨c1, c2, c3⟩ := fewE_zero h4
  have hL : fewL (freeS most l) n = fG (freeS most l) 0 n := by unfold fewL; rw [if_pos h4]
  have hmem : ∀ k ∈ fewL (freeS most l) n, k < (frees most l).length := fun k hk => by have := fewL_mem hk; rwa [freeS_len] at this
  have hget : ∀ k ∈ fewL (freeS most l) n, (frees most l)[k]? = some ((frees most l).getD k 0) := fun k hk => by
    rw [List.getElem?_eq_getElem (hmem k hk), List.getD_eq_getElem?_getD, List.getElem?_eq_getElem (hmem k hk)]; rfl
  have hso := whr_sorted (freeP most) l l.length
  refine ⟨?_, ?_, ?_, ?_, takeO_le most l n⟩
  · unfold takeO
    rw [List.pairwise_map]
    have hfs : (fewL (freeS most l) n).Pairwise (· < ·) := by rw [hL]; exact fG_sorted
    refine hfs.imp_of_mem fun {a b} ha hb hab => ?_
    have ga := hmem a ha
    have gb := hmem b hb
    rw [getD_get (List.getElem?_eq_getElem ga), getD_get (List.getElem?_eq_getElem gb)]
    exact List.pairwise_iff_getElem.1 hso a b ga gb hab
  · intro i hi
    unfold takeO at hi
    obtain ⟨k, hk, rfl⟩ := List.mem_map.1 hi
    exact List.mem_of_getElem? (hget k hk)
  · have hf := find_fewest (freeS most l) (chkSet_small c1).pos (by have := chkSet_len c1; omega) n
    unfold fewest at hf
    rw [if_pos c3] at hf
    have ht : tot (freeS most l) (fewL (freeS most l) n) = n := by
      have := List.find?_some hf
      rw [hL]; simpa using this
    have e : tot (lens l) (takeO most l n) = tot (freeS most l) (fewL (freeS most l) n) := by
      unfold tot takeO
      rw [List.map_map]
      congr 1
      refine List.map_congr_left fun k hk => ?_
      have := hget k hk
      simp only [Function.comp]
      rw [lens_getD]
      unfold freeS
      rw [List.getD_eq_getElem?_getD (l := List.map (lenAt l) (frees most l)), List.getElem?_map, this]; rfl
    rw [e, ht]
  · unfold takeO
    intro hc
    exact fewL_ne h4 (List.map_eq_nil_iff.1 hc)
theorem free_blk {most : Int} {l : List Blk} {i : Nat} {b : Blk} (hi : i ∈ frees most l) (hb : l[i]? = some b) : b.who = ByteArray.empty ∧ b.wear ≤ most := by
  have := (whr_iff hb).1 hi
  unfold freeP at this
  rw [Bool.and_eq_true, decide_eq_true_eq, decide_eq_true_eq] at this
  exact ⟨size_empty.1 this.1, this.2⟩
/-- The stock behind Take. -/
theorem takeL_get {most l who n} (h : takeE most l who n = 0) (j : Nat) : (takeL most l who n)[j]? = if j ∈ takeO most l n then (l[j]?).map (withW who) else l[j]? :=
  setIdx_get j (nodup_of_lt (took h).sorted)
theorem takeL_lens {most l who n} (h : takeE most l who n = 0) : lens (takeL most l who n) = lens l := setIdx_lens (nodup_of_lt (took h).sorted) fun _ => rfl
theorem takeL_ok {most l who n} (h : takeE most l who n = 0) : SOK most (takeL most l who n) := by
  obtain ⟨h1, h2, h3, h4⟩ := takeE_zero h
  refine h1.lensOf (takeL_lens h) fun j b hb => ?_
  rw [takeL_get h] at hb
  split at hb
  · rename_i hj
    obtain ⟨b0, hb0, rfl⟩ := Option.map_eq_some_iff.1 hb
    obtain ⟨g1, g2, g3, g4, g5⟩ := h1.blk j b0 hb0
    exact ⟨g1, g2, g3, (nameF_ok h2).1, fun _ => (free_blk ((took h).free j hj) hb0).2⟩
  · exact h1.blk j b hb
theorem held_none {who : ByteArray} {l : List Blk} {i : Nat} {b : Blk} (h : heldI who l = []) (hb : l[i]? = some b) : b.who ≠ who := by
  intro hc
  have : i ∈ heldI who l := (whr_iff hb).2 (by unfold heldP; simp [hc])
  rw [h] at this; cases this
theorem takeL_held {most l who n} (h : takeE most l who n = 0) : heldI who (takeL most l who n) = takeO most l n := by
  have ht := took h
  refine whr_of ht.sorted (fun i hi => ?_) fun i b hb => ?_
  · have := ht.lt hi; unfold takeL; rw [setIdx_len]; exact this
  · rw [takeL_get h] at hb
    split at hb
    · rename_i hj
      obtain ⟨b0, hb0, rfl⟩ := Option.map_eq_some_iff.1 hb
      simp [heldP, withW, hj]
    · rename_i hj
      have := held_none (takeE_zero h).2.2.1 hb
      simp [heldP, this, hj]
theorem named_ok {most l who} (h : SOK most l) (hn : nameF who = 0) : namedE most l who = 0 := by
  unfold namedE; rw [if_neg (by simp [chkS_zero.2 h])]; exact hn
/-- Returned behind Take: the error, and the stock. -/
theorem ret_take {most l who n w} (h : takeE most l who n = 0) (hw : 0 ≤ w ∧ w ≤ 100000) :
    retE most (takeL most l who n) who w = 11 ∨ retE most (takeL most l who n) who w = 0 ∧ retL (takeL most l who n) who w = setIdx (retB w) (takeL most l who n) (takeO most l n) ∧
      ∀ (i : Nat) b, i ∈ takeO most l n → l[i]? = some b → overB (retB w (withW who b)) = false := by
  have ht := took h
  unfold retE retL
  rw [if_neg (by simp [named_ok (takeL_ok h) (takeE_zero h).2.1]), if_neg (by rw [inR_false]; simpa using hw), takeL_held h, if_neg (fun hc => ht.ne (List.eq_nil_of_length_eq_zero hc))]
  cases hg : retGo w (takeL most l who n) (takeO most l n) with
  | none => exact .inl rfl
  | some l' =>
    obtain ⟨g1, g2⟩ := retGo_some (nodup_of_lt ht.sorted) hg fun i hi => by unfold takeL; rw [setIdx_len]; exact ht.lt hi
    refine .inr ⟨rfl, g1, fun i b hi hb => g2 i (withW who b) hi ?_⟩
    rw [takeL_get h, if_pos hi, hb]; rfl
theorem ret_get {most l who n w} (h : takeE most l who n = 0) (j : Nat) : (setIdx (retB w) (takeL most l who n) (takeO most l n))[j]? = if j ∈ takeO most l n then (l[j]?).map (fun b => retB w (withW who b)) else l[j]? := by
  rw [setIdx_get j (nodup_of_lt (took h).sorted), takeL_get h]
  split
  · cases l[j]? <;> rfl
  · rfl
/-! ### sums over the places that were taken -/
def takenTo (O : List Nat) (i : Nat) : List Nat := (List.range i).filter fun j => decide (j ∈ O)
theorem takenTo_succ (O : List Nat) (i : Nat) : takenTo O (i + 1) = takenTo O i ++ if i ∈ O then [i] else [] := by
  unfold takenTo
  rw [List.range_succ, List.filter_append]
  congr 1
  by_cases h : i ∈ O <;> simp [h]
theorem sumW_congr {l l' : List Blk} : ∀ {idx : List Nat}, (∀ i ∈ idx, wearAt l i = wearAt l' i) → sumW l idx = sumW l' idx := by
  intro idx
  unfold sumW
  suffices ∀ a, (∀ i ∈ idx, wearAt l i = wearAt l' i) → idx.foldl (fun a i => IntKind.i64.wrap (a + wearAt l i)) a = idx.foldl (fun a i => IntKind.i64.wrap (a + wearAt l' i)) a from this 0
  induction idx with
  | nil => intro a _; rfl
  | cons i idx ih =>
    intro a h
    rw [List.foldl_cons, List.foldl_cons, h i (by simp)]
    exact ih _ fun j hj => h j (by simp [hj])
theorem sumW_take {most l who n} (h : takeE most l who n = 0) (idx : List Nat) : sumW (takeL most l who n) idx = sumW l idx := by
  refine sumW_congr fun i _ => ?_
  unfold wearAt
  rw [takeL_get h]
  by_cases hi : i ∈ takeO most l n
  · rw [if_pos hi]
    cases l[i]? <;> rfl
  · rw [if_neg hi]
theorem tot_sum {most l who n} (h : takeE most l who n = 0) (hl : l.length ≤ 8) : totW (lens l) (takeO most l n) = n := by
  have ht := took h
  have hs := (takeE_zero h).1
  have hsm : Small (lens l) := by
    intro x hx
    obtain ⟨i, hi⟩ := List.mem_iff_getElem?.1 hx
    unfold lens at hi
    rw [List.getElem?_map] at hi
    obtain ⟨b, hb, rfl⟩ := Option.map_eq_some_iff.1 hi
    exact (hs.blk i b hb).1
  rw [totW_eq hsm (by have := ht.le; omega)]
  exact ht.sum
end Go.Proofs.YtbcmiddffckgmaaDoor.Am
