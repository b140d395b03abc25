/- The abstract machine: loops, slices that grow, what a slice that nobody writes holds. -/
import Derived.Test.YtbcmiddffckgmaaDoorAm19
set_option linter.unusedVariables false
set_option linter.unusedSimpArgs false
set_option linter.unnecessarySimpa false
namespace Go.Proofs.YtbcmiddffckgmaaDoor.Am
open Go

theorem getO_some_lt : ∀ {H : Heap} {d i : Nat} {o : AObj}, getO H d i = some o → d < H.length
  | [], d, i, o, h => by simp [getO] at h
  | f :: fs, d, i, o, h => by
    rw [getO] at h
    split at h
    · rename_i hd; simp [hd]
    · have := getO_some_lt h; simp; omega
theorem getO_up {H : Heap} {d i : Nat} {o : AObj} (h : getO H d i = some o) (f : List AObj) : getO (f :: H) d i = some o := by
  rw [getO_cons_up (by have := getO_some_lt h; omega)]; exact h
/-- The regions whose order is drawn. -/
def drw : Code → List (Array Oper)
  | .region _ ops draw => bif draw then [ops] else []
  | .seq a b => drw a ++ drw b
  | .cond _ a b => drw a ++ drw b
  | .block _ b => drw b
  | .loop b => drw b
  | _ => []
def drwF (fn : Func) : List (Bool × Nat) := match fn.body with
  | some c => (drw c).map fun ops => (dOk ops, dHd ops)
  | none => []
theorem W_drawnL {C m st Q i} {l : List Oper} {n} (hd : (dOk l.toArray, dHd l.toArray) = (true, n)) :
    W C m (.region i l.toArray true) st Q = WRh C m n l.toArray 0 l st (fun s => Q .norm s) ⟨⟩ ⟨⟩ ⟨⟩ := W_drawnH hd
/-- A loop that goes over n things. -/
theorem WL_for {C m b st Q t t'} (n : Nat) (I : Nat → St → Prop) (h0 : I 0 st)
    (hs : ∀ i st, i < n → I i st → W C m b st fun e s => thenH e (I (i + 1) s) (Q e s) ⟨⟩ ⟨⟩)
    (he : ∀ st, I n st → W C m b st fun e s => thenH e False (Q e s) ⟨⟩ ⟨⟩) : WL C m b st Q t t' := by
  refine W_loop_inv (α := Nat) (fun i st => i ≤ n ∧ I i st) (fun i => n - i) ?_ n 0 st (Nat.sub_zero n) ⟨Nat.zero_le n, h0⟩
  rintro i st ⟨hi, hI⟩
  rcases Nat.lt_or_ge i n with h | h
  · refine W_mono (hs i st h hI) fun e s hh => ?_
    cases e with
    | norm => exact ⟨i + 1, by omega, by omega, hh⟩
    | exit _ => exact hh
    | ret => exact hh
  · have : i = n := by omega
    subst this
    refine W_mono (he st hI) fun e s hh => ?_
    cases e with
    | norm => exact hh.elim
    | exit _ => exact hh
    | ret => exact hh
/-- A loop by a measure. -/
theorem WL_inv {C m b st Q t t'} {α : Type} (I : α → St → Prop) (dec : α → Nat) (a : α) (h0 : I a st)
    (hs : ∀ a st, I a st → W C m b st fun e s => thenH e (∃ a', dec a' < dec a ∧ I a' s) (Q e s) ⟨⟩ ⟨⟩) : WL C m b st Q t t' :=
  W_loop_inv I dec hs (dec a) a st rfl h0

/-- What a slot holds. -/
def gv (st : St) (n : Nat) : PV := (st.ts[n]?).getD undefP
/-- A slice that nobody writes: nil or a tree. -/
def SV (sv : PV) (es : List (List PV)) : Prop := (sv = .nils ∧ es = []) ∨ ∃ lim, sv = .tree es lim
theorem len_SV {P t sz by_ z} (h : slInfo P t = some (sz, by_, z)) {sv es} (hs : SV sv es) : lenP P t sv = some (.int .i64 es.length) := by
  rcases hs with ⟨rfl, rfl⟩ | ⟨lim, rfl⟩
  · exact len_nils h
  · exact len_tree h
theorem index_SV {P t sz by_ z} (h : slInfo P t = some (sz, by_, z)) {sv es} (hs : SV sv es) {k} {i : Nat} {e} (he : es[i]? = some e) (hl : e.length = sz) : indexAddrP P t sv (.int k i) = some (.tptr e) := by
  rcases hs with ⟨rfl, rfl⟩ | ⟨lim, rfl⟩
  · simp at he
  · rw [indexAddr_tree h, if_pos (by omega), Int.toNat_natCast, he, Option.bind_some, if_pos hl]
theorem reify_SV {H D k sv es} (hs : SV sv es) (h : scalL es = true) : reify H D (k + 2) sv = some sv := by
  rcases hs with ⟨rfl, rfl⟩ | ⟨lim, rfl⟩
  · exact reify_nils
  · exact reify_tree h
theorem src_SV {H sz sv es} (hs : SV sv es) (h : ∀ e ∈ es, e.length = sz) : srcCells H sz sv = some (es.length, es.flatten) := by
  rcases hs with ⟨rfl, rfl⟩ | ⟨lim, rfl⟩
  · rfl
  · unfold srcCells
    simp only []
    rw [if_pos]
    rw [List.all_eq_true]
    intro e he
    simp [h e he]
def mkS : List (List PV) → PV
  | [] => .nils
  | e :: es => .tree (e :: es) false
theorem mkS_SV (es) : SV (mkS es) es := by
  cases es with
  | nil => exact .inl ⟨rfl, rfl⟩
  | cons e es => exact .inr ⟨false, rfl⟩

theorem flatP_len {sz : Nat} {es : List (List PV)} (h : ∀ e ∈ es, e.length = sz) : es.flatten.length = es.length * sz := by
  induction es with
  | nil => simp
  | cons e es ih => simp only [List.flatten_cons, List.length_append, List.length_cons, h e (by simp), ih fun x hx => h x (by simp [hx])]; rw [Nat.add_mul, Nat.one_mul, Nat.add_comm]

/-- A slice that grew from nil by appends: its object lies behind the first k of the frame. -/
def Acc (sz D k : Nat) (g : List AObj) (av : PV) (es : List (List PV)) : Prop :=
  (∀ e ∈ es, e.length = sz) ∧ ((av = .nils ∧ es = []) ∨ (es ≠ [] ∧ ∃ j u lo, av = .sl D (k + j) u 0 es.length sz false ∧ g[j]? = some ⟨es.flatten, u, lo⟩ ∧ lo ≤ u))
theorem Acc_nil {sz D k g} : Acc sz D k g .nils [] := ⟨by simp, .inl ⟨rfl, rfl⟩⟩
theorem Acc.app {sz D k g av es} (h : Acc sz D k g av es) (l) : Acc sz D k (g ++ l) av es := by
  refine ⟨h.1, h.2.imp id fun ⟨h0, j, u, lo, h1, h2, h3⟩ => ⟨h0, j, u, lo, h1, ?_, h3⟩⟩
  rw [List.getElem?_append_left (List.getElem?_eq_some_iff.1 h2).1]; exact h2
theorem getElem?_pre {α : Type} {p q : List α} {k n : Nat} (hk : p.length = k) : (p ++ q)[k + n]? = q[n]? := by subst hk; exact getElem?_appn
theorem set_pre {α : Type} {p q : List α} {k n : Nat} {x : α} (hk : p.length = k) : (p ++ q).set (k + n) x = p ++ q.set n x := by subst hk; exact set_appn

/-- One more element, out of a slice of one that was built just now. -/
theorem acc_append {P t sz by_ z} (hi : slInfo P t = some (sz, by_, z)) {D k g av es fs} (h : Acc sz D k g av es) (hD : D = fs.length) {p l : List AObj} (hk : p.length = k) {n i lim} {e : List PV}
    (hn : n = k + (g.length + i)) (hl : l[i]? = some ⟨e, 0, 0⟩) (he : e.length = sz) (hs : 0 < sz) (hroom : roomOk (es.length + 1) by_ = true) :
    ∃ av' g' wr, appendP P ((p ++ (g ++ l)) :: fs) t t av (.sl D n 0 0 1 sz lim) = some (av', (p ++ g') :: fs, wr) ∧ Acc sz D k g' av' (es ++ [e]) ∧ (wr = [] ∨ ∃ j, wr = [(D, k + j)]) := by
  have hsrc : srcCells ((p ++ (g ++ l)) :: fs) sz (.sl D n 0 0 1 sz lim) = some (1, e) := by
    unfold srcCells
    simp only []
    rw [hD, getO_cons_self, hn, getElem?_pre hk, getElem?_appn, hl]
    simp [← he]
  rcases h with ⟨hlen, ⟨rfl, rfl⟩ | ⟨hne, j, u, lo', rfl, hj, hlo⟩⟩
  · refine ⟨.sl D (k + (g.length + l.length)) 0 0 1 sz false, g ++ l ++ [⟨e, 0, 0⟩], [], ?_, ⟨by simp [he], .inr ⟨by simp, g.length + l.length, 0, 0, rfl, ?_, Nat.le_refl _⟩⟩, .inl rfl⟩
    · rw [append_nils hi, hsrc]
      simp only [Option.bind_some]
      rw [if_neg (by omega), if_pos (by simpa using hroom)]
      rw [newO_cons, curD_cons, curN_cons, hD]
      simp [hk]
    · rw [← List.length_append, getElem?_app]; simp
  · have hjl := (List.getElem?_eq_some_iff.1 hj).1
    refine ⟨.sl D (k + j) (u + 1) 0 (es.length + 1) sz false, g.set j ⟨es.flatten ++ e, u + 1, lo'⟩ ++ l, [(D, k + j)], ?_, ⟨?_, .inr ⟨by simp, j, u + 1, lo', by simp, ?_, by omega⟩⟩, .inr ⟨j, rfl⟩⟩
    · rw [append_sl hi, appSl, hsrc]
      simp only [Option.bind_some]
      rw [if_neg (by omega), hD, getO_cons_self, getElem?_pre hk, List.getElem?_append_left hjl, hj]
      simp only [Option.bind_some]
      rw [if_pos ⟨trivial, (flatP_len hlen).symm⟩, if_pos ⟨hroom, .inl rfl⟩, setO_cons_self, set_pre hk, List.set_append_left _ _ hjl]
    · intro x hx
      rcases List.mem_append.1 hx with hx | hx
      · exact hlen x hx
      · simp at hx; subst hx; exact he
    · rw [List.getElem?_append_left (by simpa using hjl), List.getElem?_set_self hjl]
      simp

theorem reify_Acc {sz D k g av es fs} (h : Acc sz D k g av es) (hD : D = fs.length) {p : List AObj} (hk : p.length = k) {n} (hs : 0 < sz) (hsc : scalL es = true) : reify ((p ++ g) :: fs) D (n + 2) av = some (mkS es) := by
  rcases h with ⟨hlen, ⟨rfl, rfl⟩ | ⟨hne, j, u, lo', rfl, hj, hlo⟩⟩
  · exact reify_nils
  · have : mkS es = .tree es false := by cases es with | nil => exact absurd rfl hne | cons e es => rfl
    rw [this]
    refine reify_sl (o := ⟨es.flatten, u, lo'⟩) (rest := []) (by omega) ?_ ⟨hlo, Nat.le_refl _⟩ hs rfl hlen (by simp) (Nat.zero_le _) hsc
    rw [hD, getO_cons_self, getElem?_pre hk, hj]
theorem len_Acc {P t sz by_ z} (hi : slInfo P t = some (sz, by_, z)) {D k g av es} (h : Acc sz D k g av es) : lenP P t av = some (.int .i64 es.length) := by
  rcases h with ⟨hlen, ⟨rfl, rfl⟩ | ⟨hne, j, u, lo', rfl, hj, hlo⟩⟩
  · exact len_nils hi
  · exact len_sl hi
theorem Acc.cells {sz D k g av es} (h : Acc sz D k g av es) : cellsOf av = [av] := by
  rcases h with ⟨hlen, ⟨rfl, rfl⟩ | ⟨hne, j, u, lo', rfl, hj, hlo⟩⟩ <;> rfl
theorem Acc.tup {sz D k g av es} (h : Acc sz D k g av es) : isTup av = false := by
  rcases h with ⟨hlen, ⟨rfl, rfl⟩ | ⟨hne, j, u, lo', rfl, hj, hlo⟩⟩ <;> rfl
theorem SV.cells {sv es} (h : SV sv es) : cellsOf sv = [sv] := by
  rcases h with ⟨rfl, rfl⟩ | ⟨lim, rfl⟩ <;> rfl
theorem SV.tup {sv es} (h : SV sv es) : isTup sv = false := by
  rcases h with ⟨rfl, rfl⟩ | ⟨lim, rfl⟩ <;> rfl
/-- The rule for an append to such a slice. -/
theorem WXh_acc {P t sz by_ z} (hi : slInfo P t = some (sz, by_, z)) {D k g av es fs} (h : Acc sz D k g av es) (hD : D = fs.length) (p l : List AObj) (hk : p.length = k) {n} (i : Nat) {lim} {e : List PV}
    (hn : n = k + (g.length + i)) (hl : l[i]? = some ⟨e, 0, 0⟩) (he : e.length = sz) (hs : 0 < sz) (hroom : roomOk (es.length + 1) by_ = true) {K tt}
    (hK : ∀ av' g' wr, Acc sz D k g' av' (es ++ [e]) → (wr = [] ∨ ∃ j, wr = [(D, k + j)]) → K av' ((p ++ g') :: fs) wr) :
    WXh (appendP P ((p ++ (g ++ l)) :: fs) t t av (.sl D n 0 0 1 sz lim)) K tt := by
  obtain ⟨av', g', wr, h1, h2, h3⟩ := acc_append hi h hD hk hn hl he hs hroom (lim := lim)
  exact ⟨av', _, wr, h1, hK av' g' wr h2 h3⟩
theorem addWs_own {D k : Nat} {wr0 wr : Wr} (h : wr = [] ∨ ∃ j, wr = [(D, k + j)]) : addWs D 0 wr0 wr = wr0 := by
  rcases h with rfl | ⟨j, rfl⟩
  · rfl
  · simp [addWs, outer]
theorem addWs_inl {D k m : Nat} {wr0 wr : Wr} (h : wr = [] ∨ ∃ j, wr = [(D, k + j)]) (hm : m ≤ k) : addWs D m wr0 wr = wr0 := by
  rcases h with rfl | ⟨j, rfl⟩
  · rfl
  · have : ¬ k + j < m := by omega
    simp [addWs, outer, this]
theorem wrap_succ {i : Nat} (h : i < 9223372036854775807) : IntKind.i64.wrap ((i : Int) + 1) = ((i + 1 : Nat) : Int) := by
  rw [wrap64 (by omega)]; rfl
theorem room_ok {n m b : Nat} (hb : 0 < b) (h : n ≤ m) (hm : m * b ≤ 140737488355328) : roomOk n b = true := by
  have h1 : n * b ≤ m * b := Nat.mul_le_mul_right b h
  have h2 : n ≤ n * b := Nat.le_mul_of_pos_right n hb
  unfold roomOk maxL
  simp only [Bool.and_eq_true, decide_eq_true_eq]
  omega
theorem take_snoc {α : Type} {l : List α} {i : Nat} {e : α} (h : l[i]? = some e) : l.take i ++ [e] = l.take (i + 1) := by
  rw [List.take_add_one, h]; rfl
theorem repl_one {cs} : repl 1 cs = cs := by simp [repl]
theorem repl_zero {cs} : repl 0 cs = [] := by simp [repl]
theorem repl_two {cs} : repl 2 cs = cs ++ cs := by simp [repl, List.replicate]
theorem repl_three {cs} : repl 3 cs = cs ++ (cs ++ cs) := by simp [repl, List.replicate]
theorem repl_four {cs} : repl 4 cs = cs ++ (cs ++ (cs ++ cs)) := by simp [repl, List.replicate]
theorem getO_one {f : List AObj} {i} : getO [f] 0 i = f[i]? := by simp [getO]
theorem setO_one {f : List AObj} {i o} : setO [f] 0 i o = [f.set i o] := by simp [setO]
theorem getO_two {a b : List AObj} {i} : getO [a, b] 1 i = a[i]? := by simp [getO]
theorem setO_two {a b : List AObj} {i o} : setO [a, b] 1 i o = [a.set i o, b] := by simp [setO]
attribute [go_sem] Nat.le_add_right Bool.false_and Bool.and_false getO_two setO_two head_past getO_one setO_one Int.lt_irrefl List.tail_cons repl_zero repl_one repl_two repl_three repl_four Nat.zero_mul Nat.one_mul true_or or_true List.length_append List.append_assoc getElem?_app getElem?_appn set_app set_appn Int.toNat_natCast
end Go.Proofs.YtbcmiddffckgmaaDoor.Am
