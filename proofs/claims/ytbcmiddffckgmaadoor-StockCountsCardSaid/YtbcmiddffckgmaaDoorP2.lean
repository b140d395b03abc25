/- The plain law of a stock: what Check says of each block; what Take, Return and Replace keep. -/
import Derived.Test.YtbcmiddffckgmaaDoorJ2
set_option linter.unusedVariables false
set_option linter.unusedSimpArgs false
set_option linter.unnecessarySimpa false
namespace Go.Proofs.YtbcmiddffckgmaaDoor.Am
open Go
/-- A block is right. -/
def BOK (most : Int) (b : Blk) : Prop := (1 ≤ b.len ∧ b.len ≤ 100000) ∧ (0 ≤ b.wear ∧ b.wear ≤ 100000) ∧ (0 ≤ b.uses ∧ b.uses ≤ 1048576) ∧ letF b.who = 0 ∧ (b.who.size ≠ 0 → b.wear ≤ most)
theorem blkErr_zero {most p b} : blkErr most p b = 0 ↔ BOK most b ∧ geP p b.len = false := by
  have hq : (b.who.size ≠ 0 → b.wear ≤ most) ↔ ¬ (b.wear > most ∧ b.who.size ≠ 0) :=
    ⟨fun h hc => by have := h hc.2; omega, fun h h1 => by
      rcases Int.lt_or_le most b.wear with h4 | h4
      · exact absurd ⟨h4, h1⟩ h
      · exact h4⟩
  unfold blkErr BOK
  rw [hq, ← inR_true, ← inR_true, ← inR_true]
  cases inR_ b.len 1 100000
  · simp
  cases inR_ b.wear 0 100000
  · simp
  cases inR_ b.uses 0 1048576
  · simp
  cases geP p b.len
  · by_cases h : letF b.who = 0
    · by_cases h2 : b.wear > most ∧ b.who.size ≠ 0
      · have e1 : (if b.wear > most ∧ b.who.size ≠ 0 then (14 : Int) else 0) = 14 := if_pos h2
        rw [e1, h]
        exact ⟨fun hc => absurd hc (by decide), fun hc => absurd h2 hc.1.2.2.2.2⟩
      · have e1 : (if b.wear > most ∧ b.who.size ≠ 0 then (14 : Int) else 0) = 0 := if_neg h2
        rw [e1, h]
        exact ⟨fun _ => ⟨⟨rfl, rfl, rfl, rfl, h2⟩, rfl⟩, fun _ => rfl⟩
    · simp [h]
  · simp
/-- The lengths ascend. -/
def OrdI (a : List Int) : Prop := ∀ (i : Nat) x y, a[i]? = some x → a[i + 1]? = some y → x < y
theorem ordI_lt {a : List Int} (h : OrdI a) : ∀ (d i : Nat) (x y : Int), a[i]? = some x → a[i + d + 1]? = some y → x < y
  | 0, i, x, y, hx, hy => h i x y hx hy
  | d + 1, i, x, y, hx, hy => by
    have hl := (List.getElem?_eq_some_iff.1 hy).1
    obtain ⟨z, hz⟩ : ∃ z, a[i + d + 1]? = some z := ⟨_, List.getElem?_eq_getElem (by omega)⟩
    have h1 := ordI_lt h d i x z hx hz
    have h2 := h (i + d + 1) z y hz hy
    omega
theorem ordI_inj {a : List Int} (h : OrdI a) {i j : Nat} {x : Int} (hi : a[i]? = some x) (hj : a[j]? = some x) : i = j := by
  rcases Nat.lt_trichotomy i j with h1 | h1 | h1
  · have := ordI_lt h (j - i - 1) i x x hi (by rw [show i + (j - i - 1) + 1 = j by omega]; exact hj); omega
  · exact h1
  · have := ordI_lt h (i - j - 1) j x x hj (by rw [show j + (i - j - 1) + 1 = i by omega]; exact hi); omega
def lens (l : List Blk) : List Int := l.map Blk.len
theorem lens_get {l : List Blk} {i : Nat} {b : Blk} (h : l[i]? = some b) : (lens l)[i]? = some b.len := by unfold lens; rw [List.getElem?_map, h]; rfl
theorem chkB_zero {most : Int} {l : List Blk} : ∀ {k i : Nat}, i + k = l.length → (chkB most l k i = 0 ↔ ∀ (j : Nat) b, i ≤ j → l[j]? = some b → blkErr most (prevL l j) b = 0)
  | 0, i, h => by
    rw [chkB]
    refine ⟨fun _ j b hj hb => ?_, fun _ => rfl⟩
    have := (List.getElem?_eq_some_iff.1 hb).1
    omega
  | k + 1, i, h => by
    obtain ⟨b, hb⟩ : ∃ b, l[i]? = some b := ⟨_, List.getElem?_eq_getElem (by omega)⟩
    rw [chkB, hb]
    simp only []
    by_cases he : blkErr most (prevL l i) b = 0
    · rw [if_neg (by simp [he]), chkB_zero (k := k) (i := i + 1) (by omega)]
      refine ⟨fun h1 j c hj hc => ?_, fun h1 j c hj hc => h1 j c (by omega) hc⟩
      rcases Nat.eq_or_lt_of_le hj with rfl | h2
      · rw [hb] at hc; cases hc; exact he
      · exact h1 j c h2 hc
    · rw [if_pos he]
      exact ⟨fun h1 => absurd h1 he, fun h1 => absurd (h1 i b (Nat.le_refl _) hb) he⟩
/-- A stock is right. -/
structure SOK (most : Int) (l : List Blk) : Prop where
  most_ : 0 ≤ most ∧ most ≤ 100000
  len_ : l.length ≤ 256
  blk : ∀ (i : Nat) b, l[i]? = some b → BOK most b
  ord : OrdI (lens l)
theorem geP_prev {l : List Blk} {i : Nat} {b : Blk} (h : l[i + 1]? = some b) : geP (prevL l (i + 1)) b.len = false ↔ ∀ x y, (lens l)[i]? = some x → (lens l)[i + 1]? = some y → x < y := by
  have hl := (List.getElem?_eq_some_iff.1 h).1
  obtain ⟨c, hc⟩ : ∃ c, l[i]? = some c := ⟨_, List.getElem?_eq_getElem (by omega)⟩
  rw [lens_get h, lens_get hc]
  unfold prevL
  rw [if_pos (by omega), Nat.add_sub_cancel, hc]
  unfold geP
  simp
theorem chkS_zero {most : Int} {l : List Blk} : chkS most l = 0 ↔ SOK most l := by
  constructor
  · intro h
    unfold chkS at h
    split at h
    · omega
    · rename_i hm
      split at h
      · omega
      · rename_i hl
        rw [chkB_zero (by omega)] at h
        refine ⟨inR_true.1 (by simpa using hm), by omega, fun i b hb => (blkErr_zero.1 (h i b (Nat.zero_le _) hb)).1, fun i x y hx hy => ?_⟩
        have hi := (List.getElem?_eq_some_iff.1 hy).1
        have hi' : i + 1 < l.length := by simpa [lens] using hi
        obtain ⟨b, hb⟩ : ∃ b, l[i + 1]? = some b := ⟨_, List.getElem?_eq_getElem hi'⟩
        exact (geP_prev hb).1 (blkErr_zero.1 (h _ b (Nat.zero_le _) hb)).2 x y hx hy
  · rintro ⟨h1, h2, h3, h4⟩
    unfold chkS
    rw [if_neg (by rw [inR_false]; simpa using h1), if_neg (by omega), chkB_zero (by omega)]
    intro j b _ hb
    refine blkErr_zero.2 ⟨h3 j b hb, ?_⟩
    cases j with
    | zero => rfl
    | succ i => exact (geP_prev hb).2 fun x y hx hy => h4 i x y hx hy
theorem SOK.lensOf {most l l'} (h : SOK most l) (hl : lens l' = lens l) (hb : ∀ (i : Nat) b, l'[i]? = some b → BOK most b) : SOK most l' := by
  refine ⟨h.most_, ?_, hb, by rw [hl]; exact h.ord⟩
  have := congrArg List.length hl
  simp [lens] at this
  have := h.len_
  omega
/-! ### changed at places -/
theorem setIdx_cons {g : Blk → Blk} {l : List Blk} {i : Nat} {idx : List Nat} {b : Blk} (h : l[i]? = some b) : setIdx g l (i :: idx) = setIdx g (l.set i (g b)) idx := by
  unfold setIdx; rw [List.foldl_cons, h]
theorem setIdx_cons' {g : Blk → Blk} {l : List Blk} {i : Nat} {idx : List Nat} (h : l[i]? = none) : setIdx g l (i :: idx) = setIdx g l idx := by
  unfold setIdx; rw [List.foldl_cons, h]
theorem setIdx_get {g : Blk → Blk} : ∀ {idx : List Nat} {l : List Blk} (j : Nat), idx.Nodup → (setIdx g l idx)[j]? = if j ∈ idx then (l[j]?).map g else l[j]?
  | [], l, j, _ => rfl
  | i :: idx, l, j, hn => by
    obtain ⟨h1, h2⟩ := List.nodup_cons.1 hn
    cases hi : l[i]? with
    | none =>
      rw [setIdx_cons' hi, setIdx_get j h2]
      by_cases hj : j = i
      · subst hj; rw [hi]; simp
      · simp [hj]
    | some b =>
      rw [setIdx_cons hi, setIdx_get j h2]
      by_cases hj : j = i
      · subst hj
        have := (List.getElem?_eq_some_iff.1 hi).1
        rw [if_neg h1, if_pos (by simp), hi, List.getElem?_set_self this]; rfl
      · rw [List.getElem?_set_ne (fun h => hj h.symm)]; simp [hj]
theorem lens_ext {l l' : List Blk} (h : ∀ j : Nat, (l'[j]?).map Blk.len = (l[j]?).map Blk.len) : lens l' = lens l := by
  apply List.ext_getElem?
  intro j
  unfold lens
  rw [List.getElem?_map, List.getElem?_map]; exact h j
theorem setIdx_lens {g : Blk → Blk} {idx : List Nat} {l : List Blk} (hn : idx.Nodup) (hg : ∀ b, (g b).len = b.len) : lens (setIdx g l idx) = lens l := by
  apply lens_ext
  intro j
  rw [setIdx_get j hn]
  split
  · cases l[j]? with
    | none => rfl
    | some b => simp [hg]
  · rfl
theorem retGo_some {w : Int} : ∀ {idx : List Nat} {l l' : List Blk}, idx.Nodup → retGo w l idx = some l' → (∀ i ∈ idx, i < l.length) → l' = setIdx (retB w) l idx ∧ ∀ (i : Nat) b, i ∈ idx → l[i]? = some b → overB (retB w b) = false
  | [], l, l', _, h, _ => by rw [retGo] at h; cases h; exact ⟨rfl, by simp⟩
  | i :: idx, l, l', hn, h, hb => by
    obtain ⟨h1, h2⟩ := List.nodup_cons.1 hn
    obtain ⟨b, hi⟩ : ∃ b, l[i]? = some b := ⟨_, List.getElem?_eq_getElem (hb i (by simp))⟩
    rw [retGo, hi] at h
    simp only [] at h
    split at h
    · cases h
    · rename_i ho
      obtain ⟨h3, h4⟩ := retGo_some h2 h (fun j hj => by rw [List.length_set]; exact hb j (by simp [hj]))
      refine ⟨by rw [h3, setIdx_cons hi], fun j c hj hc => ?_⟩
      rcases List.mem_cons.1 hj with rfl | hj
      · rw [hi] at hc; cases hc; simpa using ho
      · exact h4 j c hj (by rw [List.getElem?_set_ne (fun e => h1 (by rw [e]; exact hj))]; exact hc)
/-! ### sorted places -/
theorem filt_eq : ∀ (N lo : Nat) (O : List Nat), O.Pairwise (· < ·) → (∀ x ∈ O, lo ≤ x ∧ x < lo + N) → (List.range' lo N).filter (fun i => decide (i ∈ O)) = O
  | 0, lo, O, _, h => by
    cases O with
    | nil => rfl
    | cons x O => have := h x (by simp); omega
  | N + 1, lo, O, hp, h => by
    rw [List.range'_succ, List.filter_cons]
    cases O with
    | nil => simp
    | cons x O =>
      obtain ⟨h1, h2⟩ := List.pairwise_cons.1 hp
      by_cases hx : x = lo
      · subst hx
        rw [if_pos (by simp)]
        congr 1
        rw [← filt_eq N (x + 1) O h2 (fun y hy => ⟨h1 y hy, by have := h y (by simp [hy]); omega⟩)]
        apply List.filter_congr
        intro y hy
        have hy' := List.mem_range'_1.1 hy
        rw [filt_eq N (x + 1) O h2 (fun y hy => ⟨h1 y hy, by have := h y (by simp [hy]); omega⟩)]
        rw [decide_eq_decide, List.mem_cons]
        exact ⟨fun h => h.resolve_left (by omega), .inr⟩
      · have hlo := h x (by simp)
        have hn : lo ∉ x :: O := by
          intro hm
          rcases List.mem_cons.1 hm with rfl | hm
          · exact hx rfl
          · have := h1 lo hm; omega
        rw [if_neg (by simpa using hn)]
        refine filt_eq N (lo + 1) (x :: O) hp fun y hy => ?_
        have h3 := h y hy
        refine ⟨?_, by omega⟩
        rcases List.mem_cons.1 hy with rfl | hm
        · omega
        · have := h1 y hm; omega
theorem filt_eq0 {N : Nat} {O : List Nat} (hp : O.Pairwise (· < ·)) (h : ∀ x ∈ O, x < N) : (List.range N).filter (fun i => decide (i ∈ O)) = O := by
  rw [List.range_eq_range']
  exact filt_eq N 0 O hp fun x hx => ⟨Nat.zero_le _, by have := h x hx; omega⟩
theorem whr_sorted (p l n) : (whr p l n).Pairwise (· < ·) := by
  unfold whr
  exact List.Pairwise.filter _ (List.pairwise_lt_range)
theorem nodup_of_lt {O : List Nat} (h : O.Pairwise (· < ·)) : O.Nodup := h.imp fun hab => by omega
theorem whr_of {p : Blk → Bool} {l : List Blk} {O : List Nat} (hp : O.Pairwise (· < ·)) (h : ∀ x ∈ O, x < l.length) (hm : ∀ (i : Nat) b, l[i]? = some b → p b = decide (i ∈ O)) : whr p l l.length = O := by
  rw [← filt_eq0 hp h]
  unfold whr
  apply List.filter_congr
  intro i hi
  rw [List.getElem?_eq_getElem (List.mem_range.1 hi)]
  exact hm i _ (List.getElem?_eq_getElem (List.mem_range.1 hi))
theorem whr_iff {p : Blk → Bool} {l : List Blk} {i : Nat} {b : Blk} (hb : l[i]? = some b) : i ∈ whr p l l.length ↔ p b = true := by
  unfold whr
  rw [List.mem_filter, List.mem_range, hb]
  exact ⟨fun h => h.2, fun h => ⟨(List.getElem?_eq_some_iff.1 hb).1, h⟩⟩
end Go.Proofs.YtbcmiddffckgmaaDoor.Am
