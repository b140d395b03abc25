/- Regions whose order is drawn: the order of the text serves. -/
import Derived.Test.YtbcmiddffckgmaaDoorAm12
set_option linter.unusedVariables false
set_option linter.unusedSimpArgs false
set_option linter.unnecessarySimpa false
namespace Go.Proofs.YtbcmiddffckgmaaDoor.Am
open Go

def stepP (C : Cfg) (k : Nat) (ts : List PV) (H : Heap) (o : Oper) : Option (PV × Heap × Wr) :=
  match calleeP ts o.op with
  | some (f, as) => call C k f as H
  | none => opP C.P ts H o.op

def inb (H : Heap) (d i : Nat) : Bool := (getO H d i).isSome

/-! ### What stands before an operation in every order -/
def rowOf (acc : List (List Nat)) (o : Oper) : List Nat := (List.range acc.length).filter fun i => (deps o).any fun d => d == i || (acc.getD d []).contains i

theorem foldl_befs : ∀ (ol : List Oper) (acc : List (List Nat)),
    (∃ suf, ol.foldl (fun acc o => acc ++ [rowOf acc o]) acc = acc ++ suf ∧ suf.length = ol.length) ∧
    ∀ (j : Nat) (o : Oper), ol[j]? = some o → (ol.foldl (fun acc o => acc ++ [rowOf acc o]) acc)[acc.length + j]? = some (rowOf ((ol.foldl (fun acc o => acc ++ [rowOf acc o]) acc).take (acc.length + j)) o)
  | [], acc => ⟨⟨[], by simp, rfl⟩, by simp⟩
  | o :: ol, acc => by
    obtain ⟨⟨suf, h1, h2⟩, h3⟩ := foldl_befs ol (acc ++ [rowOf acc o])
    refine ⟨⟨rowOf acc o :: suf, by simp only [List.foldl_cons]; rw [h1]; simp, by simp [h2]⟩, fun j o' hj => ?_⟩
    simp only [List.foldl_cons]
    cases j with
    | zero =>
      simp at hj
      subst hj
      rw [h1]
      simp
    | succ j =>
      have := h3 j o' (by simpa using hj)
      simp only [List.length_append, List.length_singleton] at this
      rw [show acc.length + 1 + j = acc.length + (j + 1) by omega] at this
      exact this

theorem befs_length (ol : List Oper) : (befs ol).length = ol.length := by
  obtain ⟨⟨suf, h1, h2⟩, _⟩ := foldl_befs ol []
  have : befs ol = ol.foldl (fun acc o => acc ++ [rowOf acc o]) [] := rfl
  rw [this, h1]; simpa using h2

theorem befs_get {ol : List Oper} {j : Nat} {o : Oper} (h : ol[j]? = some o) : (befs ol)[j]? = some (rowOf ((befs ol).take j) o) := by
  have := (foldl_befs ol []).2 j o h
  simpa [befs, rowOf] using this

def rowAt_ (ol : List Oper) (j : Nat) : List Nat := (befs ol).getD j []

theorem mem_row {ol : List Oper} {j : Nat} {o : Oper} (h : ol[j]? = some o) {i : Nat} (hi : i ∈ rowAt_ ol j) : i < j ∧ ∃ d ∈ deps o, d = i ∨ (d < j ∧ i ∈ rowAt_ ol d) := by
  have hj : j < ol.length := by
    rcases Nat.lt_or_ge j ol.length with h1 | h1
    · exact h1
    · rw [List.getElem?_eq_none h1] at h; cases h
  unfold rowAt_ at hi
  rw [List.getD_eq_getElem?_getD, befs_get h, Option.getD_some] at hi
  unfold rowOf at hi
  rw [List.mem_filter, List.mem_range, List.length_take, befs_length] at hi
  refine ⟨by omega, ?_⟩
  obtain ⟨d, hd, hdi⟩ := List.any_eq_true.1 hi.2
  refine ⟨d, hd, ?_⟩
  rw [Bool.or_eq_true] at hdi
  rcases hdi with hdi | hdi
  · exact .inl (by simpa using hdi)
  · refine .inr ?_
    rw [List.getD_eq_getElem?_getD, List.getElem?_take] at hdi
    split at hdi
    · rename_i hdj
      refine ⟨hdj, ?_⟩
      unfold rowAt_
      rw [List.getD_eq_getElem?_getD]
      simpa using hdi
    · simp at hdi

/-- What is closed under waiting holds all that stands before. -/
theorem row_closed {ol : List Oper} {L : Nat → Prop} (hc : ∀ j o, L j → ol[j]? = some o → ∀ d ∈ deps o, L d) : ∀ (j : Nat) (o : Oper), ol[j]? = some o → (∀ d ∈ deps o, L d) → ∀ i ∈ rowAt_ ol j, L i := by
  intro j
  induction j using Nat.strongRecOn with
  | _ j ih =>
    intro o ho hd i hi
    obtain ⟨_, d, hdm, hcase⟩ := mem_row ho hi
    rcases hcase with rfl | ⟨hdj, hmem⟩
    · exact hd d hdm
    · have hj : j < ol.length := by
        rcases Nat.lt_or_ge j ol.length with h1 | h1
        · exact h1
        · rw [List.getElem?_eq_none h1] at ho; cases ho
      have hod : ol[d]? = some ol[d] := List.getElem?_eq_getElem (by omega)
      exact ih d hdj _ hod (hc d _ (hd d hdm) hod) i hmem

theorem takeWhile_get {α : Type} {p : α → Bool} : ∀ {l : List α} {i : Nat}, i < (l.takeWhile p).length → ∃ x, l[i]? = some x ∧ p x = true
  | [], i, h => by simp at h
  | x :: xs, i, h => by
    rw [List.takeWhile_cons] at h
    split at h
    · rename_i hp
      cases i with
      | zero => exact ⟨x, by simp, hp⟩
      | succ i => simp at h; obtain ⟨y, h1, h2⟩ := takeWhile_get h; exact ⟨y, by simpa using h1, h2⟩
    · simp at h

theorem headLen_le (bs : List (List Nat)) : headLen bs ≤ bs.length := by unfold headLen; omega

theorem head_full {ol : List Oper} {j : Nat} (h1 : headLen (befs ol) ≤ j) (h2 : j < ol.length) : ∀ i, i < j → i ∈ rowAt_ ol j := by
  unfold headLen at h1
  have hlen := befs_length ol
  have htw : ((befs ol).zipIdx.reverse.takeWhile fullB).length ≤ (befs ol).length := by
    have := (List.takeWhile_prefix (p := fullB) (l := (befs ol).zipIdx.reverse)).length_le
    simpa using this
  obtain ⟨x, hx, hp⟩ := takeWhile_get (p := fullB) (l := (befs ol).zipIdx.reverse) (i := (befs ol).length - 1 - j) (by omega)
  rw [List.getElem?_reverse (by simp; omega)] at hx
  simp only [List.length_zipIdx] at hx
  rw [show (befs ol).length - 1 - ((befs ol).length - 1 - j) = j by omega] at hx
  rw [List.getElem?_zipIdx] at hx
  have ho : ol[j]? = some ol[j] := List.getElem?_eq_getElem h2
  rw [befs_get ho] at hx
  simp at hx
  subst hx
  simp only [fullB, decide_eq_true_eq, Nat.zero_add] at hp
  intro i hi
  unfold rowAt_
  rw [List.getD_eq_getElem?_getD, befs_get ho, Option.getD_some]
  unfold rowOf at hp ⊢
  have hl : ((befs ol).take j).length = j := by simp; omega
  rw [hl] at hp ⊢
  have hall := List.length_filter_eq_length_iff.1 (show (List.filter _ (List.range j)).length = (List.range j).length by rw [hp]; simp)
  rw [List.mem_filter]
  exact ⟨by simpa using hi, hall i (by simpa using hi)⟩

/-- What the look at the region's text says. -/
theorem drawOk_spec {ol : List Oper} (h : drawOk ol (befs ol) = true) {j : Nat} {o : Oper} (ho : ol[j]? = some o) :
    (∀ d ∈ deps o, d < j) ∧ ∀ i o' t, ol[i]? = some o' → o'.dst = some t → i = j ∨ (o.dst ≠ some t ∧ (t ∈ namesOf ol o → i ∈ rowAt_ ol j ∨ j ∈ rowAt_ ol i)) := by
  unfold drawOk at h
  rw [List.all_eq_true] at h
  have h1 := h (o, j) (by rw [List.mem_zipIdx_iff_getElem?]; exact ho)
  simp only [Bool.and_eq_true, List.all_eq_true] at h1
  refine ⟨fun d hd => of_decide_eq_true (h1.1 d hd), fun i o' t ho' ht => ?_⟩
  have h2 := h1.2 (o', i) (by rw [List.mem_zipIdx_iff_getElem?]; exact ho')
  simp only [ht, Bool.or_eq_true, Bool.and_eq_true, bne_iff_ne, ne_eq, Bool.not_eq_true', beq_iff_eq] at h2
  rcases h2 with h2 | ⟨h2, h3⟩
  · exact .inl h2
  · refine .inr ⟨h2, fun hn => ?_⟩
    rcases h3 with (h3 | h3) | h3
    · have : (namesOf ol o).contains t = true := by simpa using hn
      rw [this] at h3; cases h3
    · exact .inl (by unfold rowAt_; simpa using h3)
    · exact .inr (by unfold rowAt_; simpa using h3)

/-! ### The run, operation by operation -/
theorem head_trace {C : Cfg} {m h : Nat} {ops : Array Oper} : ∀ (cnt i k : Nat) (st st' : St), i + cnt = h → h ≤ ops.size → runOps C k m h ops (List.range' i (ops.size - i)) st = some st' →
    ∃ (T : Nat → List PV) (HH : Nat → Heap) (V : Nat → PV) (kk : Nat), T i = st.ts ∧ HH i = st.H ∧
      (∀ j, i ≤ j → j < h → ∃ o, ops[j]? = some o ∧ T (j + 1) = putP (T j) o.dst (V j) ∧
        ((wantedP o ops (T j) = false ∧ V j = undefP ∧ HH (j + 1) = HH j) ∨ (wantedP o ops (T j) = true ∧ ∃ k', k' < k ∧ stepP C k' (T j) (HH j) o = some (V j, HH (j + 1), [])))) ∧
      kk ≤ k ∧ runOps C kk m h ops (List.range' h (ops.size - h)) ⟨T h, HH h, st.wr⟩ = some st' := by
  intro cnt
  induction cnt with
  | zero =>
    intro i k st st' hi hn hx
    have : i = h := by omega
    subst this
    exact ⟨fun _ => st.ts, fun _ => st.H, fun _ => undefP, k, rfl, rfl, fun j h1 h2 => by omega, Nat.le_refl _, hx⟩
  | succ cnt ih =>
    intro i k st st' hi hn hx
    have hlt : i < ops.size := by omega
    rw [show ops.size - i = (ops.size - (i + 1)) + 1 by omega, List.range'_succ] at hx
    cases k with
    | zero => simp [runOps] at hx
    | succ k =>
      simp only [runOps] at hx
      split at hx
      · cases hx
      rename_i o ho
      obtain ⟨v, H', hstep, hx⟩ : ∃ v H', ((wantedP o ops st.ts = false ∧ v = undefP ∧ H' = st.H) ∨ (wantedP o ops st.ts = true ∧ ∃ k', k' < k + 1 ∧ stepP C k' st.ts st.H o = some (v, H', []))) ∧
          runOps C k m h ops (List.range' (i + 1) (ops.size - (i + 1))) ⟨putP st.ts o.dst v, H', st.wr⟩ = some st' := by
        split at hx
        · rename_i hw
          simp only [Option.bind_eq_some_iff] at hx
          obtain ⟨⟨v, H', d⟩, hs, hx⟩ := hx
          simp only at hx
          split at hx
          · cases hx
          rename_i hd
          have hd0 : d = [] := by
            cases d with
            | nil => rfl
            | cons a b => exact absurd ⟨by omega, by simp⟩ hd
          subst hd0
          exact ⟨v, H', .inr ⟨hw, k, Nat.lt_succ_self _, hs⟩, hx⟩
        · rename_i hw
          exact ⟨undefP, st.H, .inl ⟨by simpa using hw, rfl, rfl⟩, hx⟩
      obtain ⟨T, HH, V, kk, h1, h2, h3, h4, h5⟩ := ih (i + 1) k _ st' (by omega) hn hx
      refine ⟨fun j => if j ≤ i then st.ts else T j, fun j => if j ≤ i then st.H else HH j, fun j => if j ≤ i then v else V j, kk, by simp, by simp, fun j hj1 hj2 => ?_, by omega, ?_⟩
      · by_cases e : j = i
        · subst e
          have e1 : ¬ (j + 1 ≤ j) := by omega
          refine ⟨o, ho, ?_, ?_⟩
          · simp only [e1, if_false, Nat.le_refl, if_true]
            exact h1
          · simp only [e1, Nat.le_refl, if_true, if_false, h2]
            exact hstep
        · obtain ⟨o', ho', ht, hs⟩ := h3 j (by omega) hj2
          refine ⟨o', ho', ?_, ?_⟩
          · simp only [show ¬ (j ≤ i) by omega, show ¬ (j + 1 ≤ i) by omega, if_false]; exact ht
          · simp only [show ¬ (j ≤ i) by omega, show ¬ (j + 1 ≤ i) by omega, if_false]
            rcases hs with hs | ⟨hs1, k', hk', hs2⟩
            · exact .inl hs
            · exact .inr ⟨hs1, k', by omega, hs2⟩
      · simp only [show ¬ (h ≤ i) by omega, if_false]
        exact h5

/-! ### The slots along the run -/
theorem T_len {ops : Array Oper} {T : Nat → List PV} {V : Nat → PV} {h : Nat} (ht : ∀ j, j < h → ∃ o, ops[j]? = some o ∧ T (j + 1) = putP (T j) o.dst (V j)) : ∀ j, j ≤ h → (T j).length = (T 0).length := by
  intro j
  induction j with
  | zero => intro _; rfl
  | succ j ih =>
    intro hj
    obtain ⟨o, _, e⟩ := ht j (by omega)
    rw [e, ← ih (by omega)]
    cases o.dst <;> simp [putP]

theorem T_old {ops : Array Oper} {T : Nat → List PV} {V : Nat → PV} {h : Nat} (ht : ∀ j, j < h → ∃ o, ops[j]? = some o ∧ T (j + 1) = putP (T j) o.dst (V j)) (t : Nat) :
    ∀ j, j ≤ h → (∀ i o, i < j → ops[i]? = some o → o.dst ≠ some t) → (T j)[t]? = (T 0)[t]? := by
  intro j
  induction j with
  | zero => intro _ _; rfl
  | succ j ih =>
    intro hj hn
    obtain ⟨o, ho, e⟩ := ht j (by omega)
    rw [e, ← ih (by omega) fun i o' hi => hn i o' (by omega)]
    have := hn j o (by omega) ho
    cases hd : o.dst with
    | none => simp [putP]
    | some d =>
      rw [hd] at this
      simp only [putP]
      rw [List.getElem?_set_ne (fun e => this (by rw [e]))]

theorem T_new {ops : Array Oper} {T : Nat → List PV} {V : Nat → PV} {h : Nat} (ht : ∀ j, j < h → ∃ o, ops[j]? = some o ∧ T (j + 1) = putP (T j) o.dst (V j))
    (huniq : ∀ (i j : Nat) (o o' : Oper) (t : Nat), ops[i]? = some o → ops[j]? = some o' → o.dst = some t → o'.dst = some t → i = j) (t i : Nat) (o : Oper) (ho : ops[i]? = some o) (hd : o.dst = some t) (hlt : t < (T 0).length) :
    ∀ j, j ≤ h → i < j → (T j)[t]? = some (V i) := by
  intro j
  induction j with
  | zero => intro _ h; omega
  | succ j ih =>
    intro hj hi
    obtain ⟨o', ho', e⟩ := ht j (by omega)
    rw [e]
    by_cases e' : i = j
    · subst e'
      rw [ho] at ho'; cases ho'
      rw [hd]
      simp only [putP]
      rw [List.getElem?_set_self (by rw [T_len ht i (by omega)]; exact hlt)]
    · have h2 : o'.dst ≠ some t := fun hd' => e' (huniq i j o o' t ho ho' hd hd')
      cases hd' : o'.dst with
      | none => simpa [putP] using ih (by omega) (by omega)
      | some d =>
        rw [hd'] at h2
        simp only [putP]
        rw [List.getElem?_set_ne (fun e => h2 (by rw [e]))]
        exact ih (by omega) (by omega)

theorem rok_inb {H H' : Heap} (h : ∀ d i o, getO H d i = some o → getO H' d i = some o) : ∀ d i, inb H d i = true → inb H' d i = true := by
  intro d i hh
  obtain ⟨o, ho⟩ := Option.isSome_iff_exists.1 hh
  exact Option.isSome_iff_exists.2 ⟨o, h d i o ho⟩

end Go.Proofs.YtbcmiddffckgmaaDoor.Am
