/- The copy for a block that nobody holds; Calibrate and Replace. -/
import Derived.Test.YtbcmiddffckgmaaDoorS12
set_option linter.unusedVariables false
set_option linter.unusedSimpArgs false
set_option linter.unnecessarySimpa false
namespace Go.Proofs.YtbcmiddffckgmaaDoor.Am
open Go
def lngP (n : Int) (b : Blk) : Bool := b.len == n
set_option maxRecDepth 100000 in
theorem rest71 {G : Heap} {q D : Nat} {n : Int} (hq : getO G D q = some ⟨[.int .i64 n], 0, 0⟩) (b : Blk) {K t} :
    WCh C 71 [.agg b.c, .ref D q 0 0 1] G K t = K (.bool (lngP n b)) G [] := by
  suffices h : WC C 71 [.agg b.c, .ref D q 0 0 1] G fun v H' dd => v = .bool (lngP n b) ∧ H' = G ∧ dd = [] by
    obtain ⟨k, v, H', d, h, rfl, rfl, rfl⟩ := h; exact WCh_det h
  have hqu := getO_up hq
  refine WC_own (fn := Tryd.f71) Tryd.func71 rfl rfl rfl (Or.inl rfl) ?_; simp only [Tryd.f71, List.replicate, List.length_cons, List.length_nil, Nat.reduceSub, Nat.reduceAdd, List.cons_append, List.nil_append]
  unfold lngP Blk.c
  simp -dsimp -implicitDefEqProofs only [go_sem, C_P, C_deep, reduceCtorEq, Nat.reduceAdd, Nat.reduceLeDiff, Nat.reduceLT, Nat.reduceEqDiff, Nat.reduceMul, Nat.reduceSub, Nat.reducePow, Int.reduceToNat, Int.reduceLE, Int.reduceLT, Int.reduceEq, hqu]
/-- The place of a length. -/
def place (l : List Blk) (n : Int) : Option Nat := (whr (lngP n) l l.length)[0]?
def restE (most : Int) (l : List Blk) (n : Int) : Int := if chkS most l ≠ 0 then chkS most l else match place l n with
  | none => 6
  | some i => match l[i]? with
    | some b => if b.who.size ≠ 0 then 14 else 0
    | none => 0
theorem place_mem {l n i} (h : place l n = some i) : ∃ b, l[i]? = some b ∧ i < l.length := by
  have := whr_mem (List.mem_of_getElem? h)
  obtain ⟨h1, b, h2, _⟩ := this
  exact ⟨b, h2, h1⟩
set_option maxRecDepth 100000 in
theorem rest56 {f : List AObj} {H : Heap} {most sv l} {n : Int} (hs : BV H sv l) (hw : ∀ b ∈ l, b.who.size ≤ maxL) (hn : l.length ≤ 512) {K t}
    (hbad : restE most l n ≠ 0 → ∀ F, Sub f F → K (.tup [.nilp, .int .i64 0, .int .i64 (restE most l n)]) (F :: H) [])
    (hok : restE most l n = 0 → ∀ F q i b, Sub f F → CopF H.length f.length F q most l → place l n = some i → l[i]? = some b → K (.tup [.ref H.length q 0 0 2, .int .i64 (i : Int), .int .i64 0]) (F :: H) []) : WCh C 56 [.agg [.int .i64 most, sv], .int .i64 n] (f :: H) K t := by
  suffices h : WC C 56 [.agg [.int .i64 most, sv], .int .i64 n] (f :: H) fun v H' d => (restE most l n ≠ 0 ∧ ∃ F, Sub f F ∧ v = .tup [.nilp, .int .i64 0, .int .i64 (restE most l n)] ∧ H' = F :: H ∧ d = []) ∨
      (restE most l n = 0 ∧ ∃ F q i b, Sub f F ∧ CopF H.length f.length F q most l ∧ place l n = some i ∧ l[i]? = some b ∧ v = .tup [.ref H.length q 0 0 2, .int .i64 (i : Int), .int .i64 0] ∧ H' = F :: H ∧ d = []) from
    WCh_of h fun v H' d hh => by
      rcases hh with ⟨h1, F, h2, rfl, rfl, rfl⟩ | ⟨h1, F, q, i, b, h2, h3, h4, h5, rfl, rfl, rfl⟩
      · exact hbad h1 _ h2
      · exact hok h1 _ _ _ _ h2 h3 h4 h5
  refine WC_inl (fn := Tryd.f56) Tryd.func56 rfl rfl rfl rfl (List.cons_ne_nil _ _) ?_; simp only [Tryd.f56, List.replicate, List.length_cons, List.length_nil, Nat.reduceSub, Nat.reduceAdd, List.cons_append, List.nil_append]
  have hdr := dr_56; simp only [drwF, Tryd.f56, drw, cond_true, cond_false, List.append_nil, List.nil_append, List.cons_append, List.map_cons, List.map_nil, List.cons.injEq, and_true] at hdr
  simp -dsimp -implicitDefEqProofs only [go_sem, C_P, C_deep, reduceCtorEq, Nat.reduceAdd, Nat.reduceLeDiff, Nat.reduceLT, Nat.reduceEqDiff, Nat.reduceMul, Nat.reduceSub, Nat.reducePow, Int.reduceToNat, Int.reduceLE, Int.reduceLT, Int.reduceEq, hs.cells, hs.tup]
  refine of42 hs hw hn (fun h F hF => ?_) (fun h F q hF hc => ?_)
  · have hF' : Sub f F := Sub.trans ⟨_, rfl⟩ hF
    have he : restE most l n = chkS most l := by unfold restE; rw [if_pos h]
    simp -dsimp -implicitDefEqProofs only [go_sem, C_P, C_deep, reduceCtorEq, Nat.reduceAdd, Nat.reduceLeDiff, Nat.reduceLT, Nat.reduceEqDiff, Nat.reduceMul, Nat.reduceSub, Nat.reducePow, Int.reduceToNat, Int.reduceLE, Int.reduceLT, Int.reduceEq, show (chkS most l != 0) = true by simpa using h]
    exact .inl ⟨by rw [he]; exact h, F, hF', by rw [he], rfl⟩
  · have hF' : Sub f F := Sub.trans ⟨_, rfl⟩ hF
    have hl : F[f.length + 1]? = some ⟨[.int .i64 n], 0, 0⟩ := hF.get (by rw [getElem?_appn]; rfl)
    have h64 := fun (K : PV → Heap → Wr → Prop) (t : Hold K) => where64 (c := 71) (cap := [.ref H.length (f.length + 1) 0 0 1]) (P := lngP n) hc.cop hn (fun fr b K t => rest71 (getO_up (by rw [getO_cons_self]; exact hl) fr) b) (K := K) (t := t)
    simp -dsimp -implicitDefEqProofs only [go_sem, C_P, C_deep, reduceCtorEq, Nat.reduceAdd, Nat.reduceLeDiff, Nat.reduceLT, Nat.reduceEqDiff, Nat.reduceMul, Nat.reduceSub, Nat.reducePow, Int.reduceToNat, Int.reduceLE, Int.reduceLT, Int.reduceEq, h64]
    generalize hx : whr (lngP n) l l.length = idx
    have hln := len_SV sl_31 (mkS_SV (nats idx))
    rw [nats_len] at hln
    have he : restE most l n = match idx[0]? with
        | none => 6
        | some i => match l[i]? with
          | some b => if b.who.size ≠ 0 then 14 else 0
          | none => 0 := by unfold restE place; rw [if_neg (by simp [h]), hx]
    cases hidx : idx[0]? with
    | none =>
      have h0 : idx.length = 0 := by
        rcases Nat.eq_zero_or_pos idx.length with e | e
        · exact e
        · rw [List.getElem?_eq_getElem e] at hidx; cases hidx
      rw [hidx] at he
      simp only [] at he
      simp -dsimp -implicitDefEqProofs only [go_sem, C_P, C_deep, reduceCtorEq, Nat.reduceAdd, Nat.reduceLeDiff, Nat.reduceLT, Nat.reduceEqDiff, Nat.reduceMul, Nat.reduceSub, Nat.reducePow, Int.reduceToNat, Int.reduceLE, Int.reduceLT, Int.reduceEq, hln, h0, show ((0 : Nat) : Int) = 0 from rfl]
      exact .inl ⟨by rw [he]; decide, F, hF', by rw [he], rfl⟩
    | some i =>
      have hpl : place l n = some i := by unfold place; rw [hx]; exact hidx
      obtain ⟨b, hb, hil⟩ := place_mem hpl
      rw [hidx] at he
      simp only [hb] at he
      have hpos : 0 < idx.length := (List.getElem?_eq_some_iff.1 hidx).1
      have hne : ((idx.length : Int) == 0) = false := by rw [beq_eq_false_iff_ne]; omega
      have hix : ∀ kk, indexAddrP PP 31 (mkS (nats idx)) (.int kk 0) = some (.tptr [.int .i64 (i : Int)]) := fun kk => index_SV (k := kk) (i := 0) sl_31 (mkS_SV (nats idx)) (nats_get hidx) rfl
      obtain ⟨sv', hq, hkq, hbo⟩ := id hc
      rcases hbo with ⟨rfl, rfl⟩ | ⟨jj, rfl, hkj, hjq, hj'⟩
      · simp at hil
      have hF1 : (blks l).flatten[i * 4 + 3]? = some (.str b.who) := fl_get (blks_four l) (blks_get hb) (by decide)
      have hF2 : i * 4 + 4 ≤ (blks l).flatten.length := fl_le (blks_four l) (by rw [blks_len]; exact hil)
      generalize (blks l).flatten = F0 at hj' hF1 hF2
      simp -dsimp -implicitDefEqProofs only [go_sem, C_P, C_deep, reduceCtorEq, Nat.reduceAdd, Nat.reduceLeDiff, Nat.reduceLT, Nat.reduceEqDiff, Nat.reduceMul, Nat.reduceSub, Nat.reducePow, Int.reduceToNat, Int.reduceLE, Int.reduceLT, Int.reduceEq, hln, hne, ↓W_drawnL hdr.1, hq, hix, hj', hF1, hF2, hil, show (0 : Int) ≤ (i : Int) from by omega, str_empty]
      refine Br_intro (fun h1 => ?_) (fun h1 => ?_)
      · have h1' : b.who.size ≠ 0 := by simpa using h1
        rw [if_pos h1'] at he
        simp -dsimp -implicitDefEqProofs only [go_sem, C_P, C_deep, reduceCtorEq, Nat.reduceAdd, Nat.reduceLeDiff, Nat.reduceLT, Nat.reduceEqDiff, Nat.reduceMul, Nat.reduceSub, Nat.reducePow, Int.reduceToNat, Int.reduceLE, Int.reduceLT, Int.reduceEq]
        exact .inl ⟨by rw [he]; decide, F, hF', by rw [he], rfl⟩
      · have h1' : ¬ b.who.size ≠ 0 := by simpa using h1
        rw [if_neg h1'] at he
        simp -dsimp -implicitDefEqProofs only [go_sem, C_P, C_deep, reduceCtorEq, Nat.reduceAdd, Nat.reduceLeDiff, Nat.reduceLT, Nat.reduceEqDiff, Nat.reduceMul, Nat.reduceSub, Nat.reducePow, Int.reduceToNat, Int.reduceLE, Int.reduceLT, Int.reduceEq, ↓W_drawnL hdr.2, hix]
        exact .inr ⟨he, F, q, i, b, hF', hc.mono (by simp), hpl, hb, rfl, rfl⟩
end Go.Proofs.YtbcmiddffckgmaaDoor.Am
