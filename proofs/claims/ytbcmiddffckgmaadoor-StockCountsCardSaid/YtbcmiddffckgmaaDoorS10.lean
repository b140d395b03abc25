/- A stock's own copy. -/
import Derived.Test.YtbcmiddffckgmaaDoorS9
set_option linter.unusedVariables false
set_option linter.unusedSimpArgs false
set_option linter.unnecessarySimpa false
namespace Go.Proofs.YtbcmiddffckgmaaDoor.Am
open Go
theorem fl_drop {sz : Nat} {es : List (List PV)} (h : ∀ e ∈ es, e.length = sz) : ∀ {i : Nat} {e : List PV}, es[i]? = some e → (es.flatten.drop (i * sz)).take sz = e := by
  induction es with
  | nil => intro i e he; simp at he
  | cons a es ih =>
    intro i e he
    have ha := h a (by simp)
    cases i with
    | zero => simp at he; subst he; simp [← ha]
    | succ i =>
      rw [List.flatten_cons, Nat.add_mul, Nat.one_mul, Nat.add_comm, ← ha, List.drop_append, List.drop_eq_nil_of_le (by omega), List.nil_append, Nat.add_sub_cancel_left]
      rw [ha]
      exact ih (fun x hx => h x (by simp [hx])) (by simpa using he)
theorem fl_get {sz : Nat} {es : List (List PV)} (h : ∀ e ∈ es, e.length = sz) {i : Nat} {e : List PV} (he : es[i]? = some e) {k : Nat} (hk : k < sz) : es.flatten[i * sz + k]? = e[k]? := by
  have h1 := fl_drop h he
  have h2 : ((es.flatten.drop (i * sz)).take sz)[k]? = e[k]? := by rw [h1]
  rw [List.getElem?_take_of_lt hk, List.getElem?_drop] at h2
  exact h2
theorem fl_le {sz : Nat} {es : List (List PV)} (h : ∀ e ∈ es, e.length = sz) {i : Nat} (hi : i < es.length) : i * sz + sz ≤ es.flatten.length := by
  rw [flatP_len h]
  have := Nat.mul_le_mul_right sz (show i + 1 ≤ es.length from hi)
  rw [Nat.add_mul, Nat.one_mul] at this
  exact this
theorem append_lim {P t sz by_ z} (h : slInfo P t = some (sz, by_, z)) {H x d i} {n : Nat} {new : List PV} (hx : srcCells H sz x = some (n, new)) (ho : getO H d i = some ⟨[], 0, 0⟩) (hr : roomOk n by_ = true) :
    appendP P H t t (.sl d i 0 0 0 sz true) x = if n = 0 then some (.sl d i 0 0 0 sz true, H, []) else some (.sl (curD H) (curN H) 0 0 n sz false, newO H new, []) := by
  obtain ⟨elem, z0, h1, h2, h3, h4, rfl, h5, h6⟩ := slInfo_eq h
  unfold appendP
  rw [h1]
  simp only [h2, h3, h4, Option.bind_some]
  rw [if_neg (by simp [h5, h6]), hx]
  simp only [Option.bind_some]
  rw [if_neg (by simp)]
  split
  · rfl
  · rw [ho]; simp [hr]
/-- The blocks of a copy: what they lie in, behind the first k objects of the frame D. -/
def Ob (D k : Nat) (g : List AObj) (sv : PV) (l : List Blk) : Prop :=
  (sv = .nils ∧ l = []) ∨ ∃ j, sv = .sl D (k + j) 0 0 l.length 4 l.isEmpty ∧ g[j]? = some ⟨(blks l).flatten, 0, 0⟩
theorem Ob.cells {D k g sv l} (h : Ob D k g sv l) : cellsOf sv = [sv] := by
  rcases h with ⟨rfl, rfl⟩ | ⟨j, rfl, h⟩ <;> rfl
theorem Ob.tup {D k g sv l} (h : Ob D k g sv l) : isTup sv = false := by
  rcases h with ⟨rfl, rfl⟩ | ⟨j, rfl, h⟩ <;> rfl
theorem Ob.app {D k g sv l} (h : Ob D k g sv l) (g' : List AObj) : Ob D k (g ++ g') sv l := by
  refine h.imp id fun ⟨j, h1, h2⟩ => ⟨j, h1, ?_⟩
  rw [List.getElem?_append_left (List.getElem?_eq_some_iff.1 h2).1]; exact h2
theorem Ob.cons {D k g sv l} (h : Ob D (k + 1) g sv l) (x : AObj) : Ob D k (x :: g) sv l :=
  h.imp id fun ⟨j, h1, h2⟩ => ⟨j + 1, by rw [h1, Nat.add_assoc, Nat.add_comm 1 j], h2⟩
set_option maxRecDepth 100000 in
theorem clone63 {f : List AObj} {H : Heap} {sv l} (hs : BV H sv l) (hn : l.length ≤ 512) {K t} (hK : ∀ sv' g, Ob H.length f.length g sv' l → K sv' ((f ++ g) :: H) []) : WCh C 63 [sv] (f :: H) K t := by
  suffices h : WC C 63 [sv] (f :: H) fun v H' d => ∃ g, Ob H.length f.length g v l ∧ H' = (f ++ g) :: H ∧ d = [] from
    WCh_of h fun v H' d ⟨g, h1, h2, h3⟩ => by rw [h2, h3]; exact hK v g h1
  refine WC_inl (fn := Tryd.f63) Tryd.func63 rfl rfl rfl rfl (List.cons_ne_nil _ _) ?_; simp only [Tryd.f63, List.replicate, List.length_cons, List.length_nil, Nat.reduceSub, Nat.reduceAdd, List.cons_append, List.nil_append]
  rcases hs.eq with heq | ⟨rfl, hl'⟩
  case inr =>
    simp -dsimp -implicitDefEqProofs only [go_sem, C_P, C_deep, reduceCtorEq, Nat.reduceAdd, Nat.reduceLeDiff, Nat.reduceLT, Nat.reduceEqDiff, Nat.reduceMul, Nat.reduceSub, Nat.reducePow, Int.reduceToNat, Int.reduceLE, Int.reduceLT, Int.reduceEq, eq22_nils]
    exact ⟨[], .inl ⟨rfl, hl'⟩, by simp⟩
  case inl =>
    have hsrc := hs.src [f ++ [⟨[], 0, 0⟩]]
    rw [List.singleton_append] at hsrc
    have hap := append_lim sl_22 (d := H.length) (i := f.length) hsrc (by rw [getO_cons_self, getElem?_app]; rfl) (room_ok (m := 512) (by decide) hn (by decide))
    by_cases hl : l = []
    · subst hl
      simp -dsimp -implicitDefEqProofs only [go_sem, C_P, C_deep, reduceCtorEq, Nat.reduceAdd, Nat.reduceLeDiff, Nat.reduceLT, Nat.reduceEqDiff, Nat.reduceMul, Nat.reduceSub, Nat.reducePow, Int.reduceToNat, Int.reduceLE, Int.reduceLT, Int.reduceEq, heq, hs.cells, hs.tup, hap, show ([] : List Blk).length = 0 from rfl]
      exact ⟨[⟨[], 0, 0⟩], .inr ⟨0, rfl, rfl⟩, rfl⟩
    · have hl0 : ¬ l.length = 0 := by simpa using hl
      simp -dsimp -implicitDefEqProofs only [go_sem, C_P, C_deep, reduceCtorEq, Nat.reduceAdd, Nat.reduceLeDiff, Nat.reduceLT, Nat.reduceEqDiff, Nat.reduceMul, Nat.reduceSub, Nat.reducePow, Int.reduceToNat, Int.reduceLE, Int.reduceLT, Int.reduceEq, heq, hs.cells, hs.tup, hap, hl0]
      exact ⟨[⟨[], 0, 0⟩, ⟨(blks l).flatten, 0, 0⟩], .inr ⟨1, by rw [show l.isEmpty = false by simpa using hl], rfl⟩, rfl⟩
/-- A stock's copy: where it lies. -/
def Cop (H : Heap) (d p : Nat) (most : Int) (l : List Blk) : Prop := ∃ sv, getO H d p = some ⟨[.int .i64 most, sv], 0, 0⟩ ∧
  ((sv = .nils ∧ l = []) ∨ ∃ j lim, sv = .sl d j 0 0 l.length 4 lim ∧ getO H d j = some ⟨(blks l).flatten, 0, 0⟩)
theorem Cop.up {H d p most l} (h : Cop H d p most l) (f : List AObj) : Cop (f :: H) d p most l := by
  obtain ⟨sv, h1, h2⟩ := h
  exact ⟨sv, getO_up h1 f, h2.imp id fun ⟨j, lim, h3, h4⟩ => ⟨j, lim, h3, getO_up h4 f⟩⟩
/-- A stock's copy in the frame D, behind its first k objects. -/
def CopF (D k : Nat) (F : List AObj) (q : Nat) (most : Int) (l : List Blk) : Prop := ∃ sv, F[q]? = some ⟨[.int .i64 most, sv], 0, 0⟩ ∧ k ≤ q ∧
  ((sv = .nils ∧ l = []) ∨ ∃ j, sv = .sl D j 0 0 l.length 4 l.isEmpty ∧ k ≤ j ∧ j ≠ q ∧ F[j]? = some ⟨(blks l).flatten, 0, 0⟩)
theorem CopF.cop {k F q most l} {H : Heap} (h : CopF H.length k F q most l) : Cop (F :: H) H.length q most l := by
  obtain ⟨sv, h1, _, h2⟩ := h
  exact ⟨sv, by rw [getO_cons_self]; exact h1, h2.imp id fun ⟨j, h3, _, _, h4⟩ => ⟨j, _, h3, by rw [getO_cons_self]; exact h4⟩⟩
theorem CopF.mono {D k k' F q most l} (h : CopF D k F q most l) (hk : k' ≤ k) : CopF D k' F q most l := by
  obtain ⟨sv, h1, h0, h2⟩ := h
  exact ⟨sv, h1, by omega, h2.imp id fun ⟨j, h3, h4, h5, h6⟩ => ⟨j, h3, by omega, h5, h6⟩⟩
theorem CopF.of {D : Nat} {f : List AObj} {most l sv} {g : List AObj} {x : AObj} (ho : Ob D (f.length + 1) g sv l) : CopF D f.length (f ++ x :: (g ++ [⟨[.int .i64 most, sv], 0, 0⟩])) (f.length + (g.length + 1)) most l := by
  refine ⟨sv, by rw [getElem?_appn, List.getElem?_cons_succ, getElem?_app]; rfl, by omega, ho.imp id fun ⟨j, h3, h4⟩ => ⟨f.length + (j + 1), ?_, by omega, ?_, ?_⟩⟩
  · rw [h3, show f.length + 1 + j = f.length + (j + 1) by omega]
  · have := (List.getElem?_eq_some_iff.1 h4).1; omega
  · rw [getElem?_appn, List.getElem?_cons_succ, List.getElem?_append_left (List.getElem?_eq_some_iff.1 h4).1]; exact h4
/-- What stands in a frame stays. -/
def Sub (f f' : List AObj) : Prop := ∃ g, f' = f ++ g
theorem Sub.get {f f' : List AObj} (h : Sub f f') {i : Nat} {o : AObj} (hi : f[i]? = some o) : f'[i]? = some o := by
  obtain ⟨g, rfl⟩ := h
  rw [List.getElem?_append_left (List.getElem?_eq_some_iff.1 hi).1]; exact hi
theorem Sub.trans {f f' f'' : List AObj} (h : Sub f f') (h' : Sub f' f'') : Sub f f'' := by
  obtain ⟨g, rfl⟩ := h
  obtain ⟨g', rfl⟩ := h'
  exact ⟨g ++ g', by rw [List.append_assoc]⟩
set_option maxRecDepth 100000 in
theorem of42 {f : List AObj} {H : Heap} {most sv l} (hs : BV H sv l) (hw : ∀ b ∈ l, b.who.size ≤ maxL) (hn : l.length ≤ 512) {K t}
    (hbad : chkS most l ≠ 0 → ∀ F, Sub f F → K (.tup [.nilp, .int .i64 (chkS most l)]) (F :: H) [])
    (hok : chkS most l = 0 → ∀ F q, Sub f F → CopF H.length f.length F q most l → K (.tup [.ref H.length q 0 0 2, .int .i64 0]) (F :: H) []) : WCh C 42 [.agg [.int .i64 most, sv]] (f :: H) K t := by
  suffices h : WC C 42 [.agg [.int .i64 most, sv]] (f :: H) fun v H' d => (chkS most l ≠ 0 ∧ ∃ g, v = .tup [.nilp, .int .i64 (chkS most l)] ∧ H' = (f ++ g) :: H ∧ d = []) ∨
      (chkS most l = 0 ∧ ∃ g p, CopF H.length f.length (f ++ g) (f.length + p) most l ∧ v = .tup [.ref H.length (f.length + p) 0 0 2, .int .i64 0] ∧ H' = (f ++ g) :: H ∧ d = []) from
    WCh_of h fun v H' d hh => by
      rcases hh with ⟨h1, g, rfl, rfl, rfl⟩ | ⟨h1, g, p, h2, rfl, rfl, rfl⟩
      · exact hbad h1 _ ⟨g, rfl⟩
      · exact hok h1 _ _ ⟨g, rfl⟩ h2
  refine WC_inl (fn := Tryd.f42) Tryd.func42 rfl rfl rfl rfl (List.cons_ne_nil _ _) ?_; simp only [Tryd.f42, List.replicate, List.length_cons, List.length_nil, Nat.reduceSub, Nat.reduceAdd, List.cons_append, List.nil_append]
  have hck : ∀ (g : List AObj) (K : PV → Heap → Wr → Prop) (t : Hold K), WCh C 19 [.agg [.int .i64 most, sv]] (g :: H) K t = K (.int .i64 (chkS most l)) (g :: H) [] := fun g K t => WCh_keep (chk19h (hs.up g) hw)
  simp -dsimp -implicitDefEqProofs only [go_sem, C_P, C_deep, reduceCtorEq, Nat.reduceAdd, Nat.reduceLeDiff, Nat.reduceLT, Nat.reduceEqDiff, Nat.reduceMul, Nat.reduceSub, Nat.reducePow, Int.reduceToNat, Int.reduceLE, Int.reduceLT, Int.reduceEq, hs.cells, hs.tup, hck]
  refine Br_intro (fun h => ?_) (fun h => ?_)
  · simp -dsimp -implicitDefEqProofs only [go_sem, C_P, C_deep, reduceCtorEq, Nat.reduceAdd, Nat.reduceLeDiff, Nat.reduceLT, Nat.reduceEqDiff, Nat.reduceMul, Nat.reduceSub, Nat.reducePow, Int.reduceToNat, Int.reduceLE, Int.reduceLT, Int.reduceEq]
    exact .inl ⟨by simpa using h, [⟨[.int .i64 most, sv], 0, 0⟩], rfl⟩
  · simp -dsimp -implicitDefEqProofs only [go_sem, C_P, C_deep, reduceCtorEq, Nat.reduceAdd, Nat.reduceLeDiff, Nat.reduceLT, Nat.reduceEqDiff, Nat.reduceMul, Nat.reduceSub, Nat.reducePow, Int.reduceToNat, Int.reduceLE, Int.reduceLT, Int.reduceEq]
    refine clone63 hs hn ?_
    intro sv' g hO
    simp -dsimp -implicitDefEqProofs only [go_sem, C_P, C_deep, reduceCtorEq, Nat.reduceAdd, Nat.reduceLeDiff, Nat.reduceLT, Nat.reduceEqDiff, Nat.reduceMul, Nat.reduceSub, Nat.reducePow, Int.reduceToNat, Int.reduceLE, Int.reduceLT, Int.reduceEq, hO.cells, hO.tup]
    rw [List.length_append, List.length_singleton] at hO
    refine .inr ⟨by simpa using h, ⟨[.int .i64 most, sv'], 0, 0⟩ :: (g ++ [⟨[.int .i64 most, sv'], 0, 0⟩]), g.length + 1, ?_, rfl, rfl⟩
    exact CopF.of hO
end Go.Proofs.YtbcmiddffckgmaaDoor.Am
