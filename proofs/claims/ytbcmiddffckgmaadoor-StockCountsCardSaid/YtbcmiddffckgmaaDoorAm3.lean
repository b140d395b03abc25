/- Reading: operands, cells, loads, addresses. -/
import Derived.Test.YtbcmiddffckgmaaDoorAm2
set_option linter.unusedVariables false
set_option linter.unusedSimpArgs false
set_option linter.unnecessarySimpa false
namespace Go.Proofs.YtbcmiddffckgmaaDoor.Am
open Go

theorem addr_add (b o n : Nat) : (⟨b, o, none⟩ : Addr).add n = ⟨b, o + n, none⟩ := by unfold Addr.add; split <;> simp_all

theorem ofCell_VR {v : Value} {p : PV} (h : ofCell v = some p) (ρ : Rho) (w : World) : VR ρ w p v ∧ v.oneCell' = true ∧ cellsOf p = [p] ∧ isTup p = false := by
  unfold ofCell at h
  split at h <;> first | (cases h; simp [VR, Value.oneCell', cellsOf, isTup]; done) | cases h

theorem mapO_length {α β : Type} {f : α → Option β} : ∀ {l : List α} {r : List β}, mapO f l = some r → r.length = l.length
  | [], r, h => by simp [mapO] at h; subst h; rfl
  | x :: xs, r, h => by
    simp only [mapO, Option.bind_eq_some_iff, Option.map_eq_some_iff] at h
    obtain ⟨y, _, ys, h2, rfl⟩ := h
    simp [mapO_length h2]

theorem mapO_get {α β : Type} {f : α → Option β} : ∀ {l : List α} {r : List β}, mapO f l = some r → ∀ (j : Nat) (y : β), r[j]? = some y → ∃ x, l[j]? = some x ∧ f x = some y
  | [], r, h, j, y, hj => by simp [mapO] at h; subst h; simp at hj
  | x :: xs, r, h, j, y, hj => by
    simp only [mapO, Option.bind_eq_some_iff, Option.map_eq_some_iff] at h
    obtain ⟨y0, h1, ys, h2, rfl⟩ := h
    cases j with
    | zero => simp at hj; subst hj; exact ⟨x, by simp, h1⟩
    | succ j => simp at hj; obtain ⟨x', h3, h4⟩ := mapO_get h2 j y hj; exact ⟨x', by simpa using h3, h4⟩

theorem LV_mapO {ρ : Rho} {w : World} {α : Type} {f : α → Option PV} {g : α → Value} (hfg : ∀ x p, f x = some p → VR ρ w p (g x)) {l : List α} {r : List PV} (h : mapO f l = some r) : LV ρ w r (l.map g) := by
  refine LV_of_get _ _ (by simp [mapO_length h]) fun j c v hj hv => ?_
  obtain ⟨x, hx, hf⟩ := mapO_get h j c hj
  simp [hx] at hv
  subst hv
  exact hfg x c hf

theorem ofValue_VR {v : Value} {p : PV} (h : ofValue v = some p) (ρ : Rho) (w : World) : VR ρ w p v := by
  unfold ofValue at h
  split at h
  · rename_i cs
    simp only [Option.map_eq_some_iff] at h
    obtain ⟨l, hl, rfl⟩ := h
    simp only [VR]
    refine ⟨cs.toList, by simp, ?_, ?_⟩
    · intro u hu
      obtain ⟨j, hj⟩ := List.getElem?_of_mem hu
      have hlen := mapO_length hl
      obtain ⟨c, hc⟩ : ∃ c, l[j]? = some c := by
        have : j < l.length := by
          rw [hlen]
          rcases Nat.lt_or_ge j cs.toList.length with h | h
          · exact h
          · rw [List.getElem?_eq_none h] at hj; cases hj
        exact ⟨l[j], List.getElem?_eq_getElem this⟩
      obtain ⟨x, hx, hf⟩ := mapO_get hl j c hc
      rw [hj] at hx; cases hx
      exact (ofCell_VR hf ρ w).2.1
    · have := LV_mapO (ρ := ρ) (w := w) (g := id) (fun x p hx => (ofCell_VR hx ρ w).1) hl
      simpa using this
  · cases h
  · exact (ofCell_VR h ρ w).1

theorem evalO_VR {ρ : Rho} {w : World} {ts : List PV} {a : Act} (hl : LV ρ w ts a.tmps.toList) {x : Operand} {p : PV} (h : evalO ts x = some p) : VR ρ w p (a.eval x) := by
  cases x with
  | tmp t =>
    simp only [evalO, Option.some.injEq] at h
    subst h
    simp only [Act.eval]
    cases ht : ts[t]? with
    | none =>
      have : a.tmps.size ≤ t := by
        have := LV_length _ _ hl
        have h2 := List.getElem?_eq_none_iff.1 ht
        simp at this; omega
      simp [Array.getD, Nat.not_lt.2 this]
      exact VR_undef ρ w
    | some c =>
      obtain ⟨v, hv, hr⟩ := LV_get _ _ hl t c ht
      have hv' : a.tmps[t]? = some v := by simpa using hv
      have : a.tmps.getD t undef = v := by simp [Array.getD_eq_getD_getElem?, hv']
      simpa [this] using hr
  | const v => exact ofValue_VR h ρ w
  | global g => cases h
  | func f =>
    simp only [evalO, Option.some.injEq] at h
    subst h
    simp [VR, Act.eval, LV]

theorem evals_LV {ρ : Rho} {w : World} {ts : List PV} {a : Act} (hl : LV ρ w ts a.tmps.toList) {xs : List Operand} {ps : List PV} (h : mapO (evalO ts) xs = some ps) : LV ρ w ps (xs.map a.eval) :=
  LV_mapO (fun x p hx => evalO_VR hl hx) h

theorem VR_cells {ρ : Rho} {w : World} {p : PV} {v : Value} (h : VR ρ w p v) (ht : isTup p = false) : LV ρ w (cellsOf p) v.cells.toList ∧ ∀ u ∈ v.cells.toList, u.oneCell' = true := by
  cases p with
  | agg cs =>
    simp only [VR] at h
    obtain ⟨vs, rfl, h1, h2⟩ := h
    simpa [cellsOf, Value.cells] using ⟨h2, h1⟩
  | tup vs => simp [isTup] at ht
  | bool b => simp only [VR] at h; subst h; simp [cellsOf, Value.cells, LV, VR, Value.oneCell']
  | int k n => simp only [VR] at h; subst h; simp [cellsOf, Value.cells, LV, VR, Value.oneCell']
  | str s => simp only [VR] at h; subst h; simp [cellsOf, Value.cells, LV, VR, Value.oneCell']
  | nilp => simp only [VR] at h; subst h; simp [cellsOf, Value.cells, LV, VR, Value.oneCell']
  | nils => simp only [VR] at h; subst h; simp [cellsOf, Value.cells, LV, VR, Value.oneCell']
  | nilf => simp only [VR] at h; subst h; simp [cellsOf, Value.cells, LV, VR, Value.oneCell']
  | nili => simp only [VR] at h; subst h; simp [cellsOf, Value.cells, LV, VR, Value.oneCell']
  | ref d i u off hi =>
    have h' := h
    simp only [VR] at h
    obtain ⟨b, n, h1, rfl, h3⟩ := h
    simp only [cellsOf, Value.cells, LV, Value.oneCell']
    exact ⟨⟨_, _, rfl, h', rfl⟩, by simp [Value.oneCell']⟩
  | tptr cs =>
    have h' := h
    simp only [VR] at h
    obtain ⟨b, o, rfl, _⟩ := h
    simp only [cellsOf, Value.cells, LV]
    exact ⟨⟨_, _, rfl, h', rfl⟩, by simp [Value.oneCell']⟩
  | sl d i u off len sz lim =>
    have h' := h
    simp only [VR] at h
    obtain ⟨b, n, cap, h1, rfl, _⟩ := h
    simp only [cellsOf, Value.cells, LV]
    exact ⟨⟨_, _, rfl, h', rfl⟩, by simp [Value.oneCell']⟩
  | tree es lim =>
    have h' := h
    simp only [VR] at h
    obtain ⟨a, cap, rfl, _⟩ := h
    simp only [cellsOf, Value.cells, LV]
    exact ⟨⟨_, _, rfl, h', rfl⟩, by simp [Value.oneCell']⟩
  | fn f c =>
    have h' := h
    simp only [VR] at h
    obtain ⟨vs, rfl, _⟩ := h
    simp only [cellsOf, Value.cells, LV]
    exact ⟨⟨_, _, rfl, h', rfl⟩, by simp [Value.oneCell']⟩

/-- Cells that are laid read as a list of values. -/
theorem CV_vals {ρ : Rho} {w : World} : ∀ (cs : List PV) (b o : Nat), CV ρ w cs b o → ∃ vs : List Value, vs.length = cs.length ∧ LV ρ w cs vs ∧ (∀ u ∈ vs, u.oneCell' = true) ∧ ∀ (j : Nat) (v : Value), vs[j]? = some v → w.cell? ⟨b, o + j, none⟩ = some v
  | [], b, o, _ => ⟨[], rfl, by simp [LV], by simp, by simp⟩
  | c :: cs, b, o, h => by
    simp only [CV] at h
    obtain ⟨⟨v, h1, h2, h3⟩, h4⟩ := h
    obtain ⟨vs, e1, e2, e3, e4⟩ := CV_vals cs b (o + 1) h4
    refine ⟨v :: vs, by simp [e1], by simp only [LV]; exact ⟨v, vs, rfl, h3, e2⟩, ?_, ?_⟩
    · intro u hu
      rcases List.mem_cons.1 hu with rfl | hu
      · exact h2
      · exact e3 u hu
    · intro j u hj
      cases j with
      | zero => simp at hj; subst hj; simpa using h1
      | succ j => simp at hj; have := e4 j u hj; rwa [show o + 1 + j = o + (j + 1) by omega] at this

theorem CV_sub {ρ : Rho} {w : World} {cs : List PV} {b o : Nat} (h : CV ρ w cs b o) (k m : Nat) : CV ρ w ((cs.drop k).take m) b (o + k) := by
  rw [CV_iff] at h ⊢
  intro j c hj
  rw [List.getElem?_take] at hj
  split at hj
  · rw [List.getElem?_drop] at hj
    have := h (k + j) c hj
    rwa [show o + (k + j) = o + k + j by omega] at this
  · cases hj

theorem CV_drop {ρ : Rho} {w : World} {cs : List PV} {b o : Nat} (h : CV ρ w cs b o) (k : Nat) : CV ρ w (cs.drop k) b (o + k) := by
  rw [CV_iff] at h ⊢
  intro j c hj
  rw [List.getElem?_drop] at hj
  have := h (k + j) c hj
  rwa [show o + (k + j) = o + k + j by omega] at this

theorem CVV_flat {ρ : Rho} {w : World} : ∀ (es : List (List PV)) (b o : Nat), CVV ρ w es b o ↔ CV ρ w es.flatten b o
  | [], b, o => by simp [CVV, CV]
  | e :: es, b, o => by
    simp only [CVV, List.flatten_cons, CVV_flat es]
    constructor
    · rintro ⟨h1, h2⟩
      rw [CV_iff] at *
      intro j c hj
      rcases Nat.lt_or_ge j e.length with h | h
      · rw [List.getElem?_append_left h] at hj; exact h1 j c hj
      · rw [List.getElem?_append_right h] at hj
        have := h2 _ c hj
        rwa [show o + e.length + (j - e.length) = o + j by omega] at this
    · intro h
      constructor
      · have := CV_sub h 0 e.length
        simpa using this
      · have := CV_drop h e.length
        simpa using this

/-- The cells that a load reads. -/
theorem obj_cells {ρ : Rho} {H : Heap} {w : World} (hr : HRel ρ H w) {d i u off b n sz : Nat} {o : AObj} (ho : getO H d i = some o) (he : ρ d i u = some (b, n)) (hlo : o.lo ≤ u) (hsz : off + sz ≤ n) :
    CV ρ w ((o.cells.drop off).take sz) b off ∧ ((o.cells.drop off).take sz).length = sz := by
  obtain ⟨o1, ho1, _, hn, _, hc, _⟩ := hr.obj _ _ _ _ _ he
  rw [ho] at ho1; cases ho1
  have := CV_sub (hc hlo) off sz
  rw [List.drop_take, List.take_take, Nat.min_eq_left (by omega)] at this
  refine ⟨by simpa using this, by simp; omega⟩

theorem run_sizeOf {P : Program} {t : TypeId} {sz : Nat} (h : tsz P t = some sz) (w : World) : (sizeOf t).run P w = .ok sz w := by
  unfold tsz at h
  simp only [Option.map_eq_some_iff] at h
  obtain ⟨i, hi, rfl⟩ := h
  simp [sizeOf, typeInfo, hi]

theorem tsz_info {P : Program} {t : TypeId} {sz : Nat} (h : tsz P t = some sz) : ∃ i, P.info? t = some i ∧ i.size = sz := by
  unfold tsz at h
  simpa using h

theorem run_isAgg {P : Program} {t : TypeId} {b : Bool} (h : tagg P t = some b) (w : World) : (isAgg t).run P w = .ok b w := by
  unfold tagg at h
  simp only [Option.map_eq_some_iff] at h
  obtain ⟨d, hd, rfl⟩ := h
  unfold isAgg
  rw [Sem.run_bind, run_underlying hd w]
  cases d <;> simp

theorem run_cells {P : Program} {w : World} {vs : List Value} {b o : Nat} (h : ∀ (j : Nat) (v : Value), vs[j]? = some v → w.cell? ⟨b, o + j, none⟩ = some v) : (loadCells ⟨b, o, none⟩ vs.length).run P w = .ok vs.toArray w :=
  run_loadCells_list (P := P) w ⟨b, o, none⟩ vs (fun j v hv => by rw [addr_add]; exact h j v hv)

theorem loadP_sound {P : Program} {ρ : Rho} {H : Heap} {w : World} (hr : HRel ρ H w) {t : TypeId} {x v : PV} {xv : Value} (h : loadP P H t x = some v) (hx : VR ρ w x xv) :
    ∃ val, (Instr.loadAt t xv).run P w = .ok val w ∧ VR ρ w v val := by
  unfold loadP at h
  simp only [Option.bind_eq_some_iff] at h
  obtain ⟨sz, hsz, cs, hcs, h⟩ := h
  obtain ⟨b, o, hxv, hcv, hlen⟩ : ∃ b o, xv = .pointer (some ⟨b, o, none⟩) ∧ CV ρ w cs b o ∧ cs.length = sz := by
    split at hcs
    · rename_i d i u off hi
      simp only [Option.bind_eq_some_iff] at hcs
      obtain ⟨ob, ho, hcs⟩ := hcs
      split at hcs
      · rename_i hc
        cases hcs
        simp only [VR] at hx
        obtain ⟨b, n, h1, h2, h3⟩ := hx
        obtain ⟨h4, h5⟩ := obj_cells hr ho h1 hc.1 (off := off) (sz := sz) (by omega)
        exact ⟨b, off, h2, h4, h5⟩
      · cases hcs
    · rename_i cs'
      split at hcs
      · cases hcs
        simp only [VR] at hx
        obtain ⟨b, o, h1, h2, h3⟩ := hx
        exact ⟨b, o, h1, by simpa using CV_sub h3 0 sz, by simp; omega⟩
      · cases hcs
    · cases hcs
  subst hxv
  obtain ⟨vs, e1, e2, e3, e4⟩ := CV_vals cs b o hcv
  split at h
  · rename_i cs' htg
    cases h
    refine ⟨.agg vs.toArray, ?_, by simp only [VR]; exact ⟨vs, rfl, e3, e2⟩⟩
    have hl := run_cells (P := P) e4
    simp only [Instr.loadAt, Instr.sureAddr, loadVar, Sem.run_bind, Sem.run_pure, Result.andThen_ok, run_isAgg htg, if_true, run_sizeOf hsz]
    rw [← hlen, ← e1, hl]
    rfl
  · rename_i c htg
    cases h
    match vs, e1, e2, e3, e4 with
    | [u], e1, e2, e3, e4 =>
      simp only [LV] at e2
      obtain ⟨u', us', h5, h6, h7⟩ := e2
      cases h5
      have h8 := e4 0 u (by simp)
      simp only [Nat.add_zero] at h8
      refine ⟨u, ?_, h6⟩
      simp [Instr.loadAt, Instr.sureAddr, loadVar, run_isAgg htg, h8]
    | [], e1, _, _, _ => simp at e1
    | _ :: _ :: _, e1, _, _, _ => simp at e1
  · cases h

end Go.Proofs.YtbcmiddffckgmaaDoor.Am
