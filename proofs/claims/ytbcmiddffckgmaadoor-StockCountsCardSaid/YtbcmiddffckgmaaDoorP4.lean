/- The plain law of a stock: retired blocks that are replaced, and events. -/
import Derived.Test.YtbcmiddffckgmaaDoorP3
set_option linter.unusedVariables false
set_option linter.unusedSimpArgs false
set_option linter.unnecessarySimpa false
namespace Go.Proofs.YtbcmiddffckgmaaDoor.Am
open Go
theorem whr_one {p : Blk → Bool} {l : List Blk} {i : Nat} (hi : i < l.length) (hm : ∀ (j : Nat) b, l[j]? = some b → p b = decide (j = i)) : whr p l l.length = [i] :=
  whr_of (by simp) (by simpa using hi) fun j b hb => by rw [hm j b hb]; simp
theorem place_eq {most : Int} {l : List Blk} {i : Nat} {b : Blk} (h : SOK most l) (hb : l[i]? = some b) : place l b.len = some i := by
  unfold place
  rw [whr_one (i := i) (List.getElem?_eq_some_iff.1 hb).1 fun j c hc => ?_]
  · rfl
  · unfold lngP
    rw [Bool.eq_iff_iff, beq_iff_eq, decide_eq_true_eq]
    constructor
    · intro e
      exact ordI_inj h.ord (by rw [lens_get hc, e]) (lens_get hb)
    · rintro rfl
      rw [hb] at hc; cases hc; rfl
theorem place_some {l : List Blk} {n : Int} {i : Nat} (h : place l n = some i) : ∃ b, l[i]? = some b ∧ b.len = n := by
  obtain ⟨_, b, h2, h3⟩ := whr_mem (List.mem_of_getElem? h)
  exact ⟨b, h2, by unfold lngP at h3; simpa using h3⟩
theorem restE_zero {most l n} (h : restE most l n = 0) : SOK most l ∧ ∃ (i : Nat) (b : Blk), place l n = some i ∧ l[i]? = some b ∧ b.len = n ∧ b.who = ByteArray.empty := by
  unfold restE at h
  split at h
  · rename_i h1; exact absurd h h1
  · rename_i h1
    refine ⟨chkS_zero.1 (by simpa using h1), ?_⟩
    cases hp : place l n with
    | none => rw [hp] at h; cases h
    | some i =>
      obtain ⟨b, hb, hn⟩ := place_some hp
      rw [hp] at h
      simp only [hb] at h
      split at h
      · cases h
      · rename_i h2
        exact ⟨i, b, rfl, hb, hn, size_empty.1 (by omega)⟩
theorem restE_of {most : Int} {l : List Blk} {i : Nat} {b : Blk} (h : SOK most l) (hb : l[i]? = some b) (hw : b.who = ByteArray.empty) : restE most l b.len = 0 := by
  unfold restE
  rw [if_neg (by simp [chkS_zero.2 h]), place_eq h hb]
  simp only [hb]
  rw [if_neg (by rw [hw]; simp)]
theorem setAt_of {most : Int} {l : List Blk} {i : Nat} {b : Blk} {g : Blk → Blk} (h : SOK most l) (hb : l[i]? = some b) : setAt l b.len g = l.set i (g b) := by
  unfold setAt
  rw [place_eq h hb]
  simp only [hb]
/-! ### one event keeps a stock right -/
theorem bok_new {most n} (hm : 0 ≤ most) (h : 1 ≤ n ∧ n ≤ 100000) : BOK most (newB n) := ⟨h, ⟨Int.le_refl 0, show (0 : Int) ≤ 100000 by decide⟩, ⟨Int.le_refl 0, show (0 : Int) ≤ 1048576 by decide⟩, letF_empty, fun hc => absurd rfl hc⟩
theorem bok_ret {most w b} (h : BOK most b) (hw : 0 ≤ w ∧ w ≤ 100000) (ho : overB (retB w b) = false) : BOK most (retB w b) ∧ (retB w b).wear = b.wear + w ∧ (retB w b).uses = b.uses + 1 := by
  obtain ⟨g1, g2, g3, g4, g5⟩ := h
  have e1 : IntKind.i64.wrap (b.wear + w) = b.wear + w := wrap64 (by omega)
  have e2 : IntKind.i64.wrap (b.uses + 1) = b.uses + 1 := wrap64 (by omega)
  unfold overB retB at ho
  rw [e1, e2] at ho
  simp at ho
  unfold retB
  rw [e1, e2]
  exact ⟨⟨g1, by simp only []; omega, by simp only []; omega, letF_empty, fun hc => absurd rfl hc⟩, rfl, rfl⟩
theorem set_lens {l : List Blk} {i : Nat} {b c : Blk} (hb : l[i]? = some b) (h : c.len = b.len) : lens (l.set i c) = lens l := by
  apply lens_ext
  intro j
  rw [List.getElem?_set]
  split
  · rename_i e
    subst e
    rw [hb]
    split
    · simp [h]
    · rename_i hh; exact absurd (List.getElem?_eq_some_iff.1 hb).1 hh
  · rfl
theorem SOK.set {most : Int} {l : List Blk} {i : Nat} {b c : Blk} (h : SOK most l) (hb : l[i]? = some b) (hl : c.len = b.len) (hc : BOK most c) : SOK most (l.set i c) := by
  refine h.lensOf (set_lens hb hl) fun j d hd => ?_
  rw [List.getElem?_set] at hd
  split at hd
  · split at hd
    · cases hd; exact hc
    · cases hd
  · exact h.blk j d hd
theorem cal_ok {most l n w} (h : calE most l n w = 0) : SOK most (setAt l n fun b => { b with wear := w }) ∧ lens (setAt l n fun b => { b with wear := w }) = lens l := by
  unfold calE at h
  split at h
  · rename_i h1; exact absurd h h1
  · rename_i h1
    split at h
    · cases h
    · rename_i h2
      obtain ⟨hs, i, b, hp, hb, rfl, hw⟩ := restE_zero (by simpa using h1)
      have hw2 := inR_true.1 (show inR_ w 0 100000 = true by simpa using h2)
      rw [setAt_of hs hb]
      obtain ⟨g1, g2, g3, g4, g5⟩ := hs.blk i b hb
      exact ⟨hs.set hb rfl ⟨g1, hw2, g3, g4, fun hc => absurd (by simp only [hw]; rfl) hc⟩, set_lens hb rfl⟩
theorem rep_ok {most l n} (h : restE most l n = 0) : SOK most (setAt l n fun _ => newB n) ∧ lens (setAt l n fun _ => newB n) = lens l := by
  obtain ⟨hs, i, b, hp, hb, rfl, hw⟩ := restE_zero h
  rw [setAt_of hs hb]
  exact ⟨hs.set hb rfl (bok_new hs.most_.1 (hs.blk i b hb).1), set_lens hb rfl⟩
theorem ret_ok {most l who w} (h : retE most l who w = 0) : SOK most (retL l who w) ∧ lens (retL l who w) = lens l := by
  unfold retE at h
  split at h
  · rename_i h1; exact absurd h h1
  · rename_i h1
    split at h
    · cases h
    · rename_i h2
      split at h
      · cases h
      · have hs := chkS_zero.1 (namedE_chk (show namedE most l who = 0 by simpa using h1))
        have hw2 := inR_true.1 (show inR_ w 0 100000 = true by simpa using h2)
        unfold retL
        cases hg : retGo w l (heldI who l) with
        | none => rw [hg] at h; cases h
        | some l' =>
          have hnd := nodup_of_lt (whr_sorted (heldP who) l l.length)
          obtain ⟨g1, g2⟩ := retGo_some hnd hg fun i hi => heldI_mem hi
          simp only [Option.getD_some]
          rw [g1]
          refine ⟨hs.lensOf (setIdx_lens hnd fun _ => rfl) fun j b hb => ?_, setIdx_lens hnd fun _ => rfl⟩
          rw [setIdx_get j hnd] at hb
          split at hb
          · rename_i hj
            obtain ⟨b0, hb0, rfl⟩ := Option.map_eq_some_iff.1 hb
            exact (bok_ret (hs.blk j b0 hb0) hw2 (g2 j b0 hj hb0)).1
          · exact hs.blk j b hb
/-! ### retired and replaced -/
def newOf (b : Blk) : Blk := newB b.len
theorem repl_at {l : List Blk} {O : List Nat} (hn : O.Nodup) (k j : Nat) : (setIdx newOf l (O.take k))[j]? = if j ∈ O.take k then (l[j]?).map newOf else l[j]? :=
  setIdx_get j (hn.sublist (List.take_sublist _ _))
/-- Blocks that nobody holds are replaced one after the other. -/
theorem repl_step {most l} {O : List Nat} (h : SOK most l) (hn : O.Nodup) (hf : ∀ (i : Nat) b, i ∈ O → l[i]? = some b → b.who = ByteArray.empty) (hl : ∀ i ∈ O, i < l.length) (k : Nat) {i} (hk : O[k]? = some i) :
    restE most (setIdx newOf l (O.take k)) (lenAt l i) = 0 ∧ setAt (setIdx newOf l (O.take k)) (lenAt l i) (fun _ => newB (lenAt l i)) = setIdx newOf l (O.take (k + 1)) := by
  have hi : i ∈ O := List.mem_of_getElem? hk
  obtain ⟨b, hb⟩ : ∃ b, l[i]? = some b := ⟨_, List.getElem?_eq_getElem (hl i hi)⟩
  have hlen := setIdx_lens (g := newOf) (l := l) (hn.sublist (List.take_sublist k O)) fun _ => rfl
  have hs : SOK most (setIdx newOf l (O.take k)) := h.lensOf hlen fun j c hc => by
    rw [repl_at hn] at hc
    split at hc
    · obtain ⟨c0, hc0, rfl⟩ := Option.map_eq_some_iff.1 hc
      exact bok_new h.most_.1 (h.blk j c0 hc0).1
    · exact h.blk j c hc
  have hni : i ∉ O.take k := by
    intro hc
    obtain ⟨m, hm⟩ := List.mem_iff_getElem?.1 hc
    have hmk : m < k := by
      have := (List.getElem?_eq_some_iff.1 hm).1
      rw [List.length_take] at this; omega
    rw [List.getElem?_take, if_pos hmk] at hm
    have e1 := (List.getElem?_eq_some_iff.1 hm).1
    have := (List.getElem?_inj e1 hn).1 (hm.trans hk.symm)
    omega
  have hbi : (setIdx newOf l (O.take k))[i]? = some b := by rw [repl_at hn, if_neg hni, hb]
  have hle : lenAt l i = b.len := lenAt_of hb
  rw [hle]
  refine ⟨restE_of hs hbi (hf i b hi hb), ?_⟩
  rw [setAt_of hs hbi, ← take_snoc hk, setIdx_snoc hbi]
  rfl
theorem take_again {most l l' who n} (h : takeE most l who n = 0) (hs : SOK most l') (hl : lens l' = lens l) (hf : frees most l' = frees most l) (hh : heldI who l' = []) :
    takeE most l' who n = 0 ∧ takeO most l' n = takeO most l n := by
  obtain ⟨h1, h2, h3, h4⟩ := takeE_zero h
  have hS : freeS most l' = freeS most l := by
    unfold freeS
    rw [hf]
    refine List.map_congr_left fun i _ => ?_
    rw [← lens_getD, ← lens_getD, hl]
  constructor
  · unfold takeE
    rw [if_neg (by simp [named_ok hs h2]), if_neg (by have := congrArg List.length hh; unfold heldI at this; simp [this]), hS]
    exact h4
  · unfold takeO; rw [hS, hf]
theorem took_bok {most l who n} (h : takeE most l who n = 0) {j : Nat} {b : Blk} (hj : j ∈ takeO most l n) (hb : l[j]? = some b) : BOK most (withW who b) := by
  obtain ⟨h1, h2, h3, h4⟩ := takeE_zero h
  obtain ⟨g1, g2, g3, g4, g5⟩ := h1.blk j b hb
  exact ⟨g1, g2, g3, (nameF_ok h2).1, fun _ => (free_blk ((took h).free j hj) hb).2⟩
theorem sumW_to {l : List Blk} {O : List Nat} {i : Nat} {b : Blk} (hb : l[i]? = some b) : (i ∈ O → sumW l (takenTo O (i + 1)) = IntKind.i64.wrap (sumW l (takenTo O i) + b.wear)) ∧ (i ∉ O → sumW l (takenTo O (i + 1)) = sumW l (takenTo O i)) := by
  refine ⟨fun h => ?_, fun h => ?_⟩
  · rw [takenTo_succ, if_pos h, sumW_snoc]
    unfold wearAt; rw [hb]
  · rw [takenTo_succ, if_neg h, List.append_nil]
theorem totW_to {l : List Blk} {O : List Nat} {i : Nat} {b : Blk} (hb : l[i]? = some b) : (i ∈ O → totW (lens l) (takenTo O (i + 1)) = IntKind.i64.wrap (totW (lens l) (takenTo O i) + b.len)) ∧ (i ∉ O → totW (lens l) (takenTo O (i + 1)) = totW (lens l) (takenTo O i)) := by
  refine ⟨fun h => ?_, fun h => ?_⟩
  · rw [takenTo_succ, if_pos h, totW_snoc, lens_getD, lenAt_of hb]
  · rw [takenTo_succ, if_neg h, List.append_nil]
theorem retire {most l who n} (h : takeE most l who n = 0) (hm : most < 50000) (hr : retE most (takeL most l who n) who (most + 1) = 0) (L : List Blk) (hL : L = retL (takeL most l who n) who (most + 1)) :
    SOK most L ∧ L.length = l.length ∧ (∀ i, lenAt L i = lenAt l i) ∧ (∀ i ∈ takeO most l n, i ∉ frees most L ∧ i < l.length) ∧
    (∀ k i, (takeO most l n)[k]? = some i → restE most (setIdx newOf L ((takeO most l n).take k)) (lenAt l i) = 0 ∧ setAt (setIdx newOf L ((takeO most l n).take k)) (lenAt l i) (fun _ => newB (lenAt l i)) = setIdx newOf L ((takeO most l n).take (k + 1))) ∧
    takeE most (setIdx newOf L (takeO most l n)) who n = 0 ∧ takeO most (setIdx newOf L (takeO most l n)) n = takeO most l n := by
  have ht := took h
  have hnd := nodup_of_lt ht.sorted
  obtain ⟨h1, h2, h3, h4⟩ := takeE_zero h
  have hw : 0 ≤ most + 1 ∧ most + 1 ≤ 100000 := by have := h1.most_; omega
  rcases ret_take h hw with hc | ⟨_, e2, e3⟩
  · rw [hr] at hc; cases hc
  rw [e2] at hL
  have hget : ∀ j, L[j]? = if j ∈ takeO most l n then (l[j]?).map (fun b => retB (most + 1) (withW who b)) else l[j]? := fun j => by rw [hL]; exact ret_get h j
  have hlen : lens L = lens l := by rw [hL, setIdx_lens (g := retB (most + 1)) hnd fun _ => rfl]; exact takeL_lens h
  have hll : L.length = l.length := by have := congrArg List.length hlen; simpa [lens] using this
  have hLa : ∀ i, lenAt L i = lenAt l i := fun i => by rw [← lens_getD, ← lens_getD, hlen]
  have htb : ∀ j b, j ∈ takeO most l n → l[j]? = some b → BOK most (withW who b) := fun j b hj hb => by
    obtain ⟨g1, g2, g3, g4, g5⟩ := h1.blk j b hb
    exact ⟨g1, g2, g3, (nameF_ok h2).1, fun _ => (free_blk (ht.free j hj) hb).2⟩
  have hok : SOK most L := h1.lensOf hlen fun j b hb => by
    rw [hget] at hb
    split at hb
    · rename_i hj
      obtain ⟨b0, hb0, rfl⟩ := Option.map_eq_some_iff.1 hb
      exact (bok_ret (htb j b0 hj hb0) hw (e3 j b0 hj hb0)).1
    · exact h1.blk j b hb
  have hemp : ∀ j b, j ∈ takeO most l n → L[j]? = some b → b.who = ByteArray.empty := fun j b hj hb => by
    rw [hget, if_pos hj] at hb
    obtain ⟨b0, hb0, rfl⟩ := Option.map_eq_some_iff.1 hb
    rfl
  refine ⟨hok, hll, hLa, fun i hi => ⟨fun hc => ?_, ht.lt hi⟩, fun k i hk => ?_, ?_⟩
  · obtain ⟨b0, hb0⟩ : ∃ b0, l[i]? = some b0 := ⟨_, List.getElem?_eq_getElem (ht.lt hi)⟩
    have hb : L[i]? = some (retB (most + 1) (withW who b0)) := by rw [hget, if_pos hi, hb0]; rfl
    have h5 := (free_blk hc hb).2
    rw [(bok_ret (htb i b0 hi hb0) hw (e3 i b0 hi hb0)).2.1] at h5
    have h6 := (h1.blk i b0 hb0).2.1.1
    have h7 : (withW who b0).wear = b0.wear := rfl
    rw [h7] at h5
    omega
  · have := repl_step hok hnd hemp (fun j hj => by rw [hll]; exact ht.lt hj) k hk
    rw [hLa] at this
    exact this
  · have hg2 : ∀ j, (setIdx newOf L (takeO most l n))[j]? = if j ∈ takeO most l n then (l[j]?).map newOf else l[j]? := fun j => by
      rw [setIdx_get j hnd, hget]
      split
      · cases l[j]? <;> rfl
      · rfl
    have hlen2 : lens (setIdx newOf L (takeO most l n)) = lens l := by rw [setIdx_lens (g := newOf) hnd fun _ => rfl, hlen]
    refine take_again h (h1.lensOf hlen2 fun j b hb => ?_) hlen2 ?_ ?_
    · rw [hg2] at hb
      split at hb
      · obtain ⟨b0, hb0, rfl⟩ := Option.map_eq_some_iff.1 hb
        exact bok_new h1.most_.1 (h1.blk j b0 hb0).1
      · exact h1.blk j b hb
    · refine whr_of (whr_sorted _ _ _) (fun i hi => by rw [setIdx_len, hll]; exact (whr_mem hi).1) fun i b hb => ?_
      rw [hg2] at hb
      split at hb
      · rename_i hj
        obtain ⟨b0, hb0, rfl⟩ := Option.map_eq_some_iff.1 hb
        rw [decide_eq_true (ht.free i hj)]
        have := h1.most_.1
        simp [freeP, newOf, newB, this]
      · rw [Bool.eq_iff_iff, decide_eq_true_eq]
        exact (whr_iff hb).symm
    · refine List.eq_nil_iff_forall_not_mem.2 fun i hi => ?_
      obtain ⟨hi1, b, hb, hp⟩ := whr_mem hi
      have hp' : b.who = who := by unfold heldP at hp; simpa using hp
      rw [hg2] at hb
      split at hb
      · obtain ⟨b0, hb0, rfl⟩ := Option.map_eq_some_iff.1 hb
        have : who = ByteArray.empty := hp'.symm
        exact (nameF_ok h2).2 (by rw [this]; rfl)
      · exact held_none h3 hb hp'
end Go.Proofs.YtbcmiddffckgmaaDoor.Am
