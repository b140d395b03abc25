/- Calibrate and Replace. -/
import Derived.Test.YtbcmiddffckgmaaDoorS13
import Derived.Test.YtbcmiddffckgmaaDoorS4
set_option linter.unusedVariables false
set_option linter.unusedSimpArgs false
set_option linter.unnecessarySimpa false
namespace Go.Proofs.YtbcmiddffckgmaaDoor.Am
open Go
theorem fl_set {sz k : Nat} {v : PV} (hk : k < sz) : ∀ {es : List (List PV)} {i : Nat} {e : List PV}, (∀ e ∈ es, e.length = sz) → es[i]? = some e → es.flatten.set (i * sz + k) v = (es.set i (e.set k v)).flatten
  | [], i, e, _, he => by simp at he
  | a :: es, 0, e, h, he => by
    simp at he; subst he
    have := h a (by simp)
    rw [List.flatten_cons, List.set_cons_zero, List.flatten_cons, Nat.zero_mul, Nat.zero_add, List.set_append_left _ _ (by omega)]
  | a :: es, i + 1, e, h, he => by
    have ha := h a (by simp)
    rw [List.flatten_cons, List.set_cons_succ, List.flatten_cons, List.set_append_right _ _ (by rw [ha, Nat.add_mul]; omega), ha, show (i + 1) * sz + k - sz = i * sz + k by rw [Nat.add_mul]; omega]
    rw [fl_set hk (fun x hx => h x (by simp [hx])) (by simpa using he)]
theorem fl_set1 {sz k : Nat} {v : PV} (hk : k < sz) {es : List (List PV)} {i : Nat} {e : List PV} (h : ∀ e ∈ es, e.length = sz) (he : es[i]? = some e) :
    es.flatten.take (i * sz + k) ++ v :: es.flatten.drop (i * sz + k + 1) = (es.set i (e.set k v)).flatten := by
  rw [← fl_set hk h he, List.set_eq_take_append_cons_drop, if_pos]
  have := fl_le h (List.getElem?_eq_some_iff.1 he).1
  omega
theorem fl_put {sz : Nat} : ∀ {es : List (List PV)} {i : Nat} {e e' : List PV}, (∀ e ∈ es, e.length = sz) → es[i]? = some e → e'.length = sz → es.flatten.take (i * sz) ++ (e' ++ es.flatten.drop (i * sz + sz)) = (es.set i e').flatten
  | [], i, e, e', _, he, _ => by simp at he
  | a :: es, 0, e, e', h, he, hl => by
    have := h a (by simp)
    rw [List.flatten_cons, List.set_cons_zero, List.flatten_cons, Nat.zero_mul, Nat.zero_add, List.take_zero, List.nil_append, ← this, List.drop_left]
  | a :: es, i + 1, e, e', h, he, hl => by
    have ha := h a (by simp)
    have ih := fl_put (sz := sz) (es := es) (i := i) (e := e) (e' := e') (fun x hx => h x (by simp [hx])) (by simpa using he) hl
    rw [List.flatten_cons, List.set_cons_succ, List.flatten_cons, ← ih, ← List.append_assoc a]
    rw [show (i + 1) * sz = a.length + i * sz by rw [Nat.add_mul]; omega, List.take_length_add_append, Nat.add_assoc, List.drop_length_add_append, List.append_assoc]
theorem blks_set {l : List Blk} {i : Nat} {b : Blk} : (blks l).set i b.c = blks (l.set i b) := by unfold blks; rw [List.map_set]
def stkRes (e most : Int) (l : List Blk) : PV := if e ≠ 0 then .tup [.agg [.int .i64 0, .nils], .int .i64 e] else .tup [.agg [.int .i64 most, mkS (blks l)], .int .i64 0]
def calE (most : Int) (l : List Blk) (n w : Int) : Int := if restE most l n ≠ 0 then restE most l n else if inR_ w 0 100000 = false then 2 else 0
def setAt (l : List Blk) (n : Int) (g : Blk → Blk) : List Blk := match place l n with
  | some i => match l[i]? with
    | some b => l.set i (g b)
    | none => l
  | none => l
theorem setAt_len (l n g) : (setAt l n g).length = l.length := by
  unfold setAt
  split
  · split
    · simp
    · rfl
  · rfl
theorem mkS_ne {es : List (List PV)} (h : es ≠ []) : mkS es = .tree es false := by cases es with | nil => exact absurd rfl h | cons a l => rfl
/-- A copy's blocks behind the frame's end. -/
theorem reify_blk {G : List AObj} {H : Heap} {j k n : Nat} {l : List Blk} (h : G[j]? = some ⟨(blks l).flatten, 0, 0⟩) (hn : n = l.length) (hne : l ≠ []) : reify (G :: H) H.length (k + 2) (.sl H.length j 0 0 n 4 false) = some (mkS (blks l)) := by
  rw [mkS_ne (by simpa [blks] using hne)]
  exact reify_sl (o := ⟨(blks l).flatten, 0, 0⟩) (rest := []) (by omega) (by rw [getO_cons_self]; exact h) ⟨Nat.le_refl _, Nat.le_refl _⟩ (by decide) (by rw [blks_len, hn]) (blks_four l) (by simp) (Nat.zero_le _) (blks_scal l)
set_option maxRecDepth 100000 in
theorem cal29h {H : Heap} {most sv l} {n w : Int} (hs : BV H sv l) (hw : ∀ b ∈ l, b.who.size ≤ maxL) (hn : l.length ≤ 512) : WC C 29 [.agg [.int .i64 most, sv], .int .i64 n, .int .i64 w] H fun v' H' d => v' = (stkRes (calE most l n w) most (setAt l n fun b => { b with wear := w })) ∧ H' = H ∧ d = [] := by
  refine WC_own (fn := Tryd.f29) Tryd.func29 rfl rfl rfl (Or.inl rfl) ?_; simp only [Tryd.f29, List.replicate, List.length_cons, List.length_nil, Nat.reduceSub, Nat.reduceAdd, List.cons_append, List.nil_append]
  simp -dsimp -implicitDefEqProofs only [go_sem, C_P, C_deep, reduceCtorEq, Nat.reduceAdd, Nat.reduceLeDiff, Nat.reduceLT, Nat.reduceEqDiff, Nat.reduceMul, Nat.reduceSub, Nat.reducePow, Int.reduceToNat, Int.reduceLE, Int.reduceLT, Int.reduceEq, hs.cells, hs.tup]
  refine rest56 hs hw hn (fun h F hF => ?_) (fun h F q i b hF hc hp hb => ?_)
  · have h1 : F[1]? = some ⟨[.int .i64 0, .nils], 0, 0⟩ := hF.get rfl
    have hl1 : 1 < F.length := (List.getElem?_eq_some_iff.1 h1).1
    have hE : calE most l n w = restE most l n := by unfold calE; rw [if_pos h]
    unfold stkRes
    rw [hE, if_pos h]
    simp -dsimp -implicitDefEqProofs only [go_sem, C_P, C_deep, reduceCtorEq, Nat.reduceAdd, Nat.reduceLeDiff, Nat.reduceLT, Nat.reduceEqDiff, Nat.reduceMul, Nat.reduceSub, Nat.reducePow, Int.reduceToNat, Int.reduceLE, Int.reduceLT, Int.reduceEq, show (restE most l n != 0) = true by simpa using h, h1, List.getElem?_set, hl1]
  · have h1 : F[1]? = some ⟨[.int .i64 0, .nils], 0, 0⟩ := hF.get rfl
    have hl1 : 1 < F.length := (List.getElem?_eq_some_iff.1 h1).1
    simp -dsimp -implicitDefEqProofs only [go_sem, C_P, C_deep, reduceCtorEq, Nat.reduceAdd, Nat.reduceLeDiff, Nat.reduceLT, Nat.reduceEqDiff, Nat.reduceMul, Nat.reduceSub, Nat.reducePow, Int.reduceToNat, Int.reduceLE, Int.reduceLT, Int.reduceEq, WCh_pure (in49 _ _ _)]
    unfold stkRes
    refine Br_intro (fun h2 => ?_) (fun h2 => ?_)
    · have hE : calE most l n w = 2 := by unfold calE; rw [if_neg (by simp [h]), if_pos (by simpa using h2)]
      rw [hE, if_pos (by decide)]
      simp -dsimp -implicitDefEqProofs only [go_sem, C_P, C_deep, reduceCtorEq, Nat.reduceAdd, Nat.reduceLeDiff, Nat.reduceLT, Nat.reduceEqDiff, Nat.reduceMul, Nat.reduceSub, Nat.reducePow, Int.reduceToNat, Int.reduceLE, Int.reduceLT, Int.reduceEq, h1, List.getElem?_set, hl1]
    · have hE : calE most l n w = 0 := by unfold calE; rw [if_neg (by simp [h]), if_neg (by simpa using h2)]
      rw [hE, if_neg (by decide)]
      obtain ⟨sv', hq, hkq, hbo⟩ := hc
      obtain ⟨_, _, hil⟩ := place_mem hp
      rcases hbo with ⟨rfl, rfl⟩ | ⟨jj, rfl, hkj, hjq, hj'⟩
      · simp at hil
      simp only [List.length_cons, List.length_nil] at hkq hkj
      have hne : l ≠ [] := by rintro rfl; simp at hil
      have hemp : l.isEmpty = false := by simpa using hne
      have hlq : q < F.length := (List.getElem?_eq_some_iff.1 hq).1
      have hlj : jj < F.length := (List.getElem?_eq_some_iff.1 hj').1
      have hF2 : i * 4 + 4 ≤ (blks l).flatten.length := fl_le (blks_four l) (by rw [blks_len]; exact hil)
      have hF3 := fl_set1 (sz := 4) (k := 1) (v := .int .i64 w) (by decide) (blks_four l) (blks_get hb)
      rw [show b.c.set 1 (.int .i64 w) = ({ b with wear := w } : Blk).c from rfl, blks_set] at hF3
      have hst : setAt l n (fun b => { b with wear := w }) = l.set i { b with wear := w } := by unfold setAt; rw [hp]; simp only [hb]
      rw [hst]
      rw [hemp] at hq
      have hr : ∀ G : List AObj, G[jj]? = some ⟨(blks (l.set i { b with wear := w })).flatten, 0, 0⟩ → reify (G :: H) H.length 4 (.sl H.length jj 0 0 l.length 4 false) = some (mkS (blks (l.set i { b with wear := w }))) :=
        fun G hG => reify_blk hG (by simp) (by simpa using hne)
      simp -dsimp -implicitDefEqProofs only [go_sem, C_P, C_deep, reduceCtorEq, Nat.reduceAdd, Nat.reduceLeDiff, Nat.reduceLT, Nat.reduceEqDiff, Nat.reduceMul, Nat.reduceSub, Nat.reducePow, Int.reduceToNat, Int.reduceLE, Int.reduceLT, Int.reduceEq, hq, hj', hF2, hF3, hil, h1, List.getElem?_set, List.length_set, hl1, hlq, hlj, hjq, hjq.symm, show ¬ jj = 1 by omega, show ¬ 1 = jj by omega, show ¬ q = 1 by omega, show ¬ 1 = q by omega, show (0 : Int) ≤ (i : Int) from by omega, hr]
theorem cal29 {most sv l} {n w : Int} (hs : SV sv (blks l)) (hw : ∀ b ∈ l, b.who.size ≤ maxL) (hn : l.length ≤ 512) : Pure C 29 [.agg [.int .i64 most, sv], .int .i64 n, .int .i64 w] (stkRes (calE most l n w) most (setAt l n fun b => { b with wear := w })) := fun _ => cal29h (BV.of hs) hw hn
set_option maxRecDepth 100000 in
theorem rep31h {H : Heap} {most sv l} {n : Int} (hs : BV H sv l) (hw : ∀ b ∈ l, b.who.size ≤ maxL) (hn : l.length ≤ 512) : WC C 31 [.agg [.int .i64 most, sv], .int .i64 n] H fun v' H' d => v' = (stkRes (restE most l n) most (setAt l n fun _ => newB n)) ∧ H' = H ∧ d = [] := by
  refine WC_own (fn := Tryd.f31) Tryd.func31 rfl rfl rfl (Or.inl rfl) ?_; simp only [Tryd.f31, List.replicate, List.length_cons, List.length_nil, Nat.reduceSub, Nat.reduceAdd, List.cons_append, List.nil_append]
  simp -dsimp -implicitDefEqProofs only [go_sem, C_P, C_deep, reduceCtorEq, Nat.reduceAdd, Nat.reduceLeDiff, Nat.reduceLT, Nat.reduceEqDiff, Nat.reduceMul, Nat.reduceSub, Nat.reducePow, Int.reduceToNat, Int.reduceLE, Int.reduceLT, Int.reduceEq, hs.cells, hs.tup]
  unfold stkRes
  refine rest56 hs hw hn (fun h F hF => ?_) (fun h F q i b hF hc hp hb => ?_)
  · have h1 : F[1]? = some ⟨[.int .i64 0, .nils], 0, 0⟩ := hF.get rfl
    have hl1 : 1 < F.length := (List.getElem?_eq_some_iff.1 h1).1
    rw [if_pos h]
    simp -dsimp -implicitDefEqProofs only [go_sem, C_P, C_deep, reduceCtorEq, Nat.reduceAdd, Nat.reduceLeDiff, Nat.reduceLT, Nat.reduceEqDiff, Nat.reduceMul, Nat.reduceSub, Nat.reducePow, Int.reduceToNat, Int.reduceLE, Int.reduceLT, Int.reduceEq, show (restE most l n != 0) = true by simpa using h, h1, List.getElem?_set, hl1]
  · have h1 : F[1]? = some ⟨[.int .i64 0, .nils], 0, 0⟩ := hF.get rfl
    have hl1 : 1 < F.length := (List.getElem?_eq_some_iff.1 h1).1
    rw [h, if_neg (by decide)]
    obtain ⟨sv', hq, hkq, hbo⟩ := hc
    obtain ⟨_, _, hil⟩ := place_mem hp
    rcases hbo with ⟨rfl, rfl⟩ | ⟨jj, rfl, hkj, hjq, hj'⟩
    · simp at hil
    simp only [List.length_cons, List.length_nil] at hkq hkj
    have hne : l ≠ [] := by rintro rfl; simp at hil
    have hemp : l.isEmpty = false := by simpa using hne
    have hlq : q < F.length := (List.getElem?_eq_some_iff.1 hq).1
    have hlj : jj < F.length := (List.getElem?_eq_some_iff.1 hj').1
    have hF2 : i * 4 + 4 ≤ (blks l).flatten.length := fl_le (blks_four l) (by rw [blks_len]; exact hil)
    have hF3 := fl_put (sz := 4) (e' := (newB n).c) (blks_four l) (blks_get hb) rfl
    rw [blks_set] at hF3
    have hF3' : (blks l).flatten.take (i * 4) ++ .int .i64 n :: .int .i64 0 :: .int .i64 0 :: .str ByteArray.empty :: (blks l).flatten.drop (i * 4 + 4) = (blks (l.set i (newB n))).flatten := hF3
    have hst : setAt l n (fun _ => newB n) = l.set i (newB n) := by unfold setAt; rw [hp]; simp only [hb]
    rw [hst]
    rw [hemp] at hq
    have hr : ∀ G : List AObj, G[jj]? = some ⟨(blks (l.set i (newB n))).flatten, 0, 0⟩ → reify (G :: H) H.length 4 (.sl H.length jj 0 0 l.length 4 false) = some (mkS (blks (l.set i (newB n)))) :=
      fun G hG => reify_blk hG (by simp) (by simpa using hne)
    simp -dsimp -implicitDefEqProofs only [go_sem, C_P, C_deep, reduceCtorEq, Nat.reduceAdd, Nat.reduceLeDiff, Nat.reduceLT, Nat.reduceEqDiff, Nat.reduceMul, Nat.reduceSub, Nat.reducePow, Int.reduceToNat, Int.reduceLE, Int.reduceLT, Int.reduceEq, hq, hj', hF2, hF3', hil, h1, List.getElem?_set, List.length_set, hl1, hlq, hlj, hjq, hjq.symm, show ¬ jj = 1 by omega, show ¬ 1 = jj by omega, show ¬ q = 1 by omega, show ¬ 1 = q by omega, show (0 : Int) ≤ (i : Int) from by omega, hr]
theorem rep31 {most sv l} {n : Int} (hs : SV sv (blks l)) (hw : ∀ b ∈ l, b.who.size ≤ maxL) (hn : l.length ≤ 512) : Pure C 31 [.agg [.int .i64 most, sv], .int .i64 n] (stkRes (restE most l n) most (setAt l n fun _ => newB n)) := fun _ => rep31h (BV.of hs) hw hn
end Go.Proofs.YtbcmiddffckgmaaDoor.Am
