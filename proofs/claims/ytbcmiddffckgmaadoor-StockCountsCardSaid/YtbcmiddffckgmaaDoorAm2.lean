/- What becomes of the relation when an object is made, written, or grows. -/
import Derived.Test.YtbcmiddffckgmaaDoorAm1
set_option linter.unusedVariables false
set_option linter.unusedSimpArgs false
set_option linter.unnecessarySimpa false
namespace Go.Proofs.YtbcmiddffckgmaaDoor.Am
open Go

theorem CV_iff {ρ : Rho} {w : World} : ∀ (cs : List PV) (b o : Nat), CV ρ w cs b o ↔ ∀ j c, cs[j]? = some c → ∃ v, w.cell? ⟨b, o + j, none⟩ = some v ∧ v.oneCell' = true ∧ VR ρ w c v
  | [], b, o => by simp [CV]
  | c :: cs, b, o => by
    simp only [CV, CV_iff cs b (o + 1)]
    constructor
    · rintro ⟨h1, h2⟩ j c' hj
      cases j with
      | zero => simp at hj; subst hj; simpa using h1
      | succ j => simp at hj; have := h2 j c' hj; rwa [show o + 1 + j = o + (j + 1) by omega] at this
    · intro h
      refine ⟨by simpa using h 0 c (by simp), fun j c' hj => ?_⟩
      have := h (j + 1) c' (by simpa using hj)
      rwa [show o + (j + 1) = o + 1 + j by omega] at this

theorem LV_length {ρ : Rho} {w : World} : ∀ (cs : List PV) (vs : List Value), LV ρ w cs vs → cs.length = vs.length
  | [], vs, h => by simp [LV] at h; simp [h]
  | c :: cs, vs, h => by
    simp only [LV] at h
    obtain ⟨v, vs', rfl, _, h3⟩ := h
    simp [LV_length cs vs' h3]

theorem LV_get {ρ : Rho} {w : World} : ∀ (cs : List PV) (vs : List Value), LV ρ w cs vs → ∀ (j : Nat) (c : PV), cs[j]? = some c → ∃ v, vs[j]? = some v ∧ VR ρ w c v
  | [], vs, h, j, c, hj => by simp at hj
  | c0 :: cs, vs, h, j, c, hj => by
    simp only [LV] at h
    obtain ⟨v, vs', rfl, h2, h3⟩ := h
    cases j with
    | zero => simp at hj; subst hj; exact ⟨v, by simp, h2⟩
    | succ j => simp at hj; obtain ⟨u, h4, h5⟩ := LV_get cs vs' h3 j c hj; exact ⟨u, by simpa using h4, h5⟩

theorem LV_of_get {ρ : Rho} {w : World} : ∀ (cs : List PV) (vs : List Value), cs.length = vs.length → (∀ (j : Nat) (c : PV) (v : Value), cs[j]? = some c → vs[j]? = some v → VR ρ w c v) → LV ρ w cs vs
  | [], [], _, _ => by simp [LV]
  | [], _ :: _, h, _ => by simp at h
  | _ :: _, [], h, _ => by simp at h
  | c :: cs, v :: vs, h, hg => by
    simp only [LV]
    exact ⟨v, vs, rfl, hg 0 c v (by simp) (by simp), LV_of_get cs vs (by simpa using h) fun j c' v' h1 h2 => hg (j + 1) c' v' (by simpa using h1) (by simpa using h2)⟩

theorem LV_append {ρ : Rho} {w : World} : ∀ (cs : List PV) (vs : List Value) (ds : List PV) (us : List Value), LV ρ w cs vs → LV ρ w ds us → LV ρ w (cs ++ ds) (vs ++ us)
  | [], vs, ds, us, h, h' => by simp [LV] at h; subst h; simpa using h'
  | c :: cs, vs, ds, us, h, h' => by
    simp only [LV] at h
    obtain ⟨v, vs', rfl, h2, h3⟩ := h
    simp only [List.cons_append, LV]
    exact ⟨v, vs' ++ us, rfl, h2, LV_append cs vs' ds us h3 h'⟩

theorem LV_replicate {ρ : Rho} {w : World} {c : PV} {v : Value} (h : VR ρ w c v) : ∀ n, LV ρ w (List.replicate n c) (List.replicate n v)
  | 0 => by simp [LV]
  | n + 1 => by simp only [List.replicate_succ, LV]; exact ⟨v, _, rfl, h, LV_replicate h n⟩

theorem VR_undef (ρ : Rho) (w : World) : VR ρ w undefP undef := by simp [undefP, undef, VR, LV]

/-- References go no deeper than the relation's own domain. -/
structure Dom (ρ : Rho) (D : Nat) : Prop where
  le : ∀ d i u x, ρ d i u = some x → d ≤ D

theorem HRel.dom {ρ : Rho} {f : List AObj} {fs : Heap} {w : World} (h : HRel ρ (f :: fs) w) : Dom ρ fs.length := by
  refine ⟨fun d i u x hx => ?_⟩
  obtain ⟨b, n⟩ := x
  obtain ⟨o, ho, _⟩ := h.obj _ _ _ _ _ hx
  have := getO_lt ho
  simp at this; omega

mutual
theorem VR.dle {ρ : Rho} {w : World} {D : Nat} (hD : Dom ρ D) : ∀ (c : PV) (v : Value), VR ρ w c v → dle D c = true
  | .bool b, v, hv => by simp [Am.dle]
  | .int k n, v, hv => by simp [Am.dle]
  | .str s, v, hv => by simp [Am.dle]
  | .nilp, v, hv => by simp [Am.dle]
  | .ref d i u off hi, v, hv => by
    simp only [VR] at hv
    obtain ⟨b, n, h1, h2, h3⟩ := hv
    simpa [Am.dle] using hD.le _ _ _ _ h1
  | .tptr cs, v, hv => by
    simp only [VR] at hv
    obtain ⟨b, o, h1, h2, h3⟩ := hv
    simpa [Am.dle] using CV.dle hD cs b o h3
  | .nils, v, hv => by simp [Am.dle]
  | .sl d i u off len sz lim, v, hv => by
    simp only [VR] at hv
    obtain ⟨b, n, cap, h1, _⟩ := hv
    simpa [Am.dle] using hD.le _ _ _ _ h1
  | .tree es lim, v, hv => by
    simp only [VR] at hv
    obtain ⟨a, cap, h1, h2, h3, h4, h5⟩ := hv
    by_cases he : es = []
    · subst he; simp [Am.dle, dleLL]
    · simpa [Am.dle] using CVV.dle hD es _ _ (h5 he).2.2
  | .fn f c, v, hv => by
    simp only [VR] at hv
    obtain ⟨vs, h1, h2⟩ := hv
    simpa [Am.dle] using LV.dle hD c vs h2
  | .nilf, v, hv => by simp [Am.dle]
  | .nili, v, hv => by simp [Am.dle]
  | .agg cs, v, hv => by
    simp only [VR] at hv
    obtain ⟨vs, h1, h2, h3⟩ := hv
    simpa [Am.dle] using LV.dle hD cs vs h3
  | .tup cs, v, hv => by
    simp only [VR] at hv
    obtain ⟨vs, h1, h2⟩ := hv
    simpa [Am.dle] using LV.dle hD cs vs h2
theorem CV.dle {ρ : Rho} {w : World} {D : Nat} (hD : Dom ρ D) : ∀ (cs : List PV) (b o : Nat), CV ρ w cs b o → dleL D cs = true
  | [], _, _, _ => by simp [dleL]
  | c :: cs, b, o, hv => by
    simp only [CV] at hv
    obtain ⟨⟨v, _, _, h3⟩, h4⟩ := hv
    simp [dleL, VR.dle hD c v h3, CV.dle hD cs b (o + 1) h4]
theorem CVV.dle {ρ : Rho} {w : World} {D : Nat} (hD : Dom ρ D) : ∀ (es : List (List PV)) (b o : Nat), CVV ρ w es b o → dleLL D es = true
  | [], _, _, _ => by simp [dleLL]
  | e :: es, b, o, hv => by
    simp only [CVV] at hv
    simp [dleLL, CV.dle hD e b o hv.1, CVV.dle hD es b _ hv.2]
theorem LV.dle {ρ : Rho} {w : World} {D : Nat} (hD : Dom ρ D) : ∀ (cs : List PV) (vs : List Value), LV ρ w cs vs → dleL D cs = true
  | [], _, _ => by simp [dleL]
  | c :: cs, vs, hv => by
    simp only [LV] at hv
    obtain ⟨v, vs', _, h2, h3⟩ := hv
    simp [dleL, VR.dle hD c v h2, LV.dle hD cs vs' h3]
end

theorem dleL_iff (D : Nat) : ∀ cs : List PV, dleL D cs = true ↔ ∀ c ∈ cs, dle D c = true
  | [] => by simp [dleL]
  | c :: cs => by simp [dleL, dleL_iff D cs]
theorem dleL_append {D : Nat} {a b : List PV} (h : dleL D a = true) (h' : dleL D b = true) : dleL D (a ++ b) = true := by
  rw [dleL_iff] at *; intro c hc; rcases List.mem_append.1 hc with h1 | h1
  · exact h c h1
  · exact h' c h1
theorem dleL_take {D n : Nat} {a : List PV} (h : dleL D a = true) : dleL D (a.take n) = true := by
  rw [dleL_iff] at *; exact fun c hc => h c (List.mem_of_mem_take hc)
theorem dleL_drop {D n : Nat} {a : List PV} (h : dleL D a = true) : dleL D (a.drop n) = true := by
  rw [dleL_iff] at *; exact fun c hc => h c (List.mem_of_mem_drop hc)
theorem dleL_splice {D off : Nat} {a new : List PV} (h : dleL D a = true) (h' : dleL D new = true) : dleL D (splice a off new) = true :=
  dleL_append (dleL_append (dleL_take h) h') (dleL_drop h)

/-- Cells of a block that is unchanged. -/
theorem CV.same0 {ρ ρ' : Rho} {w w' : World} (h : Ext0 ρ w ρ' w') {cs : List PV} {b o : Nat} (hb : ∀ j, j < cs.length → w'.cell? ⟨b, o + j, none⟩ = w.cell? ⟨b, o + j, none⟩) (hv : CV ρ w cs b o) : CV ρ' w' cs b o := by
  rw [CV_iff] at hv ⊢
  intro j c hj
  obtain ⟨v, h1, h2, h3⟩ := hv j c hj
  have hl : j < cs.length := by
    rcases Nat.lt_or_ge j cs.length with h | h
    · exact h
    · rw [List.getElem?_eq_none h] at hj; cases hj
  exact ⟨v, (hb j hl).trans h1, h2, VR.ext0 h c v h3⟩
theorem CV.same {ρ ρ' : Rho} {w w' : World} (h : Ext ρ w ρ' w') {cs : List PV} {b o : Nat} (hb : ∀ j, j < cs.length → w'.cell? ⟨b, o + j, none⟩ = w.cell? ⟨b, o + j, none⟩) (hv : CV ρ w cs b o) : CV ρ' w' cs b o := CV.same0 h.toExt0 hb hv

def updR (ρ : Rho) (d i u : Nat) (x : Nat × Nat) : Rho := ⟨fun d' i' u' => if d' = d ∧ i' = i ∧ u' = u then some x else ρ d' i' u', ρ.G, fun d' i' => (d' = d ∧ i' = i) ∨ ρ.ex d' i'⟩
theorem updR_at (ρ : Rho) (d i u : Nat) (x : Nat × Nat) (d' i' u' : Nat) : updR ρ d i u x d' i' u' = if d' = d ∧ i' = i ∧ u' = u then some x else ρ d' i' u' := rfl

theorem getO_new (f : List AObj) (fs : Heap) : getO (f :: fs) fs.length f.length = none := by simp [getO]

/-- What two worlds share beside their heaps. -/
structure Side (w w' : World) : Prop where
  os : w'.os = w.os
  tape : w'.tape = w.tape
  output : w'.output = w.output
theorem Side.refl (w : World) : Side w w := ⟨rfl, rfl, rfl⟩

theorem heap_push_old {w w' : World} {o : Obj} (hw : w'.heap = w.heap.push o) {b : Nat} (hb : b < w.heap.size) : w'.heap[b]? = w.heap[b]? := by
  rw [hw, Array.getElem?_push, if_neg (by omega)]
theorem heap_push_new {w w' : World} {o : Obj} (hw : w'.heap = w.heap.push o) : w'.heap[w.heap.size]? = some o := by
  rw [hw, Array.getElem?_push, if_pos rfl]

/-- A block more: what is told of a version that has no block yet is laid there. -/
theorem Ext.push {ρ : Rho} {w w' : World} {o : Obj} (hw : w'.heap = w.heap.push o) (hs : Side w w') (hlt : ∀ d i u b n, ρ d i u = some (b, n) → b < w.heap.size) (d i u n : Nat) (hn : ρ d i u = none) (hnew : (∃ u' y, ρ d i u' = some y) ∨ ¬ ρ.ex d i) :
    Ext ρ w (updR ρ d i u (w.heap.size, n)) w' := by
  refine ⟨⟨?_, by rw [hw]; simp, fun b hb => heap_push_old hw hb.1, ?_, ?_, hs.os, hs.tape, hs.output, rfl⟩, fun d' i' e => .inr e, fun d' i' u' x e => ?_⟩
  rotate_left 3
  · rw [updR_at] at e
    split at e
    · rename_i e'; obtain ⟨rfl, rfl, rfl⟩ := e'; exact hnew
    · exact .inl ⟨u', x, e⟩
  · intro d' i' u' x hx
    rw [updR_at]
    split
    · rename_i e; obtain ⟨rfl, rfl, rfl⟩ := e; rw [hn] at hx; cases hx
    · exact hx
  · intro d' i' u' b m hx
    rw [updR_at] at hx
    split at hx
    · cases hx; exact .inr (Nat.le_refl _)
    · exact .inl ⟨u', m, hx⟩
  · rintro b cur ty fz ⟨d', i', u', m, hr⟩ hc
    exact ⟨cur, (heap_push_old hw (hlt _ _ _ _ _ hr)).trans hc, rfl⟩

theorem CV_of_LV {ρ : Rho} {w : World} {cs : List PV} {vs : List Value} {b o : Nat} (h : LV ρ w cs vs) (h1 : ∀ u ∈ vs, u.oneCell' = true) (hc : ∀ j v, vs[j]? = some v → w.cell? ⟨b, o + j, none⟩ = some v) : CV ρ w cs b o := by
  rw [CV_iff]
  intro j c hj
  obtain ⟨v, h2, h3⟩ := LV_get cs vs h j c hj
  exact ⟨v, hc j v h2, h1 v (List.mem_of_getElem? h2), h3⟩

theorem cell_push {w w' : World} {arr : Array Value} {ty : TypeId} (hw : w'.heap = w.heap.push (.cells arr ty)) (j : Nat) : w'.cell? ⟨w.heap.size, j, none⟩ = arr[j]? := by
  simp [World.cell?, heap_push_new hw]

/-- A new object. -/
theorem HRel.new {ρ : Rho} {f : List AObj} {fs : Heap} {w w' : World} (h : HRel ρ (f :: fs) w) {arr : Array Value} {ty : TypeId} (hw : w'.heap = w.heap.push (.cells arr ty)) (hs : Side w w')
    {cells : List PV} {vals : List Value} (hl : LV ρ w cells vals) (h1 : ∀ u ∈ vals, u.oneCell' = true) (ht : arr.toList.take cells.length = vals) :
    HRel (updR ρ fs.length f.length 0 (w.heap.size, cells.length)) (newO (f :: fs) cells) w' ∧ Ext ρ w (updR ρ fs.length f.length 0 (w.heap.size, cells.length)) w' := by
  have hnone : ∀ u, ρ fs.length f.length u = none := by
    intro u
    cases e : ρ fs.length f.length u with
    | none => rfl
    | some x =>
      obtain ⟨b, n⟩ := x
      obtain ⟨o, ho, _⟩ := h.obj _ _ _ _ _ e
      rw [getO_new] at ho; cases ho
  have hext := Ext.push (ρ := ρ) hw hs (fun d i u b n e => h.lt e) fs.length f.length 0 cells.length (hnone 0) (.inr fun hh => by have := (h.ex _ _).1 hh; rw [getO_new] at this; cases this)
  have hlen := LV_length _ _ hl
  have hsize : cells.length ≤ arr.size := by
    have := congrArg List.length ht
    simp at this; omega
  refine ⟨⟨?_, ?_, ?_, ?_, ?_, ?_, ?_⟩, hext⟩
  rotate_left 5
  · intro d i
    rw [newO, getO_pushO]
    show ((d = fs.length ∧ i = f.length) ∨ ρ.ex d i) ↔ _
    rw [h.ex]
    split
    · rename_i e; exact ⟨fun _ => rfl, fun _ => .inl e⟩
    · rename_i e; exact ⟨fun hh => hh.resolve_left e, fun hh => .inr hh⟩
  rotate_left 4
  · intro d i u b n e hg
    have hlow := h.low b hg
    rw [updR_at] at e
    split at e
    · cases e; omega
    · exact h.res _ _ _ _ _ e hg
  · intro b hg
    exact Nat.lt_of_lt_of_le (h.low b hg) hext.size
  rotate_left 1
  · intro d i u b n e
    rw [updR_at] at e
    split at e
    · rename_i e'
      obtain ⟨rfl, rfl, rfl⟩ := e'
      cases e
      refine ⟨{ cells, ver := 0, lo := 0 }, by simp [newO, getO_pushO], Nat.le_refl _, Nat.le_refl _, fun _ => rfl, fun _ => ?_, LV.dle h.dom _ _ hl, Nat.le_refl _⟩
      simp only [List.take_length]
      refine CV_of_LV (LV.ext hext _ _ hl) h1 fun j v hj => ?_
      rw [Nat.zero_add, cell_push hw]
      rw [← ht, List.getElem?_take] at hj
      split at hj
      · simpa using hj
      · cases hj
    · obtain ⟨o, ho, hu, hn, hv, hc, hd⟩ := h.obj _ _ _ _ _ e
      refine ⟨o, ?_, hu, hn, hv, fun hlo => ?_, hd⟩
      · rw [newO, getO_pushO, if_neg]
        · exact ho
        · rintro ⟨rfl, rfl⟩; rw [getO_new] at ho; cases ho
      · exact CV.same hext (fun j _ => cell_eq_of_block (heap_push_old hw (h.lt e)) _) (hc hlo)
  · intro d i u b n e
    rw [updR_at] at e
    split at e
    · cases e
      exact ⟨arr, ty, heap_push_new hw, hsize⟩
    · obtain ⟨cur, ty', hc, hn⟩ := h.block _ _ _ _ _ e
      exact ⟨cur, ty', (heap_push_old hw (h.lt e)).trans hc, hn⟩
  · intro d i u x o e ho u' hu'
    rw [newO, getO_pushO] at ho
    split at ho
    · rename_i e'
      obtain ⟨rfl, rfl⟩ := e'
      cases ho
      have : u' = 0 := by simpa using hu'
      subst this
      exact ⟨(w.heap.size, cells.length), by simp [updR_at]⟩
    · rename_i e'
      rw [updR_at] at e
      rw [if_neg (fun hh => e' ⟨hh.1, hh.2.1⟩)] at e
      obtain ⟨y, hy⟩ := h.cov _ _ _ _ _ e ho u' hu'
      exact ⟨y, by rw [updR_at, if_neg (fun hh => e' ⟨hh.1, hh.2.1⟩)]; exact hy⟩
  · intro d i u b n d' i' u' n' e e'
    rw [updR_at] at e e'
    split at e <;> split at e'
    · rename_i a1 a2
      exact ⟨a1.1.trans a2.1.symm, a1.2.1.trans a2.2.1.symm⟩
    · cases e
      have := h.lt e'
      omega
    · cases e'
      have := h.lt e
      omega
    · exact h.inj _ _ _ _ _ _ _ _ _ e e'

/-- A block is written: what it was, what it is. -/
structure Wrote (w w' : World) (g : Nat) (cur cur' : Array Value) (ty : TypeId) : Prop where
  old : w.heap[g]? = some (.cells cur ty (0, 0))
  new : w'.heap[g]? = some (.cells cur' ty (0, 0))
  same : ∀ k, k ≠ g → w'.heap[k]? = w.heap[k]?
  size : w'.heap.size = w.heap.size
  len : cur'.size = cur.size
  side : Side w w'

theorem setO_some {H : Heap} {d i : Nat} {o : AObj} (d' i' : Nat) : (getO (setO H d i o) d' i').isSome = (getO H d' i').isSome := by
  induction H with
  | nil => rfl
  | cons f fs ih =>
    simp only [setO]
    split
    · simp only [getO]
      split
      · by_cases hi : i = i'
        · subst hi
          simp only [List.getElem?_set, if_true]
          split
          · rename_i hl; simp [List.getElem?_eq_getElem hl]
          · rename_i hl; rw [List.getElem?_eq_none (by omega)]
        · rw [List.getElem?_set_ne hi]
      · rfl
    · simp only [getO, setO_length]
      split
      · rfl
      · exact ih

theorem Wrote.ext {ρ : Rho} {w w' : World} {g : Nat} {cur cur' : Array Value} {ty : TypeId} (h : Wrote w w' g cur cur' ty) (hg : inR ρ g) : Ext ρ w ρ w' := by
  refine ⟨⟨fun _ _ _ _ e => e, by rw [h.size]; exact Nat.le_refl _, fun b hb => h.same b (fun e => hb.2.1 (e ▸ hg)), fun d i u b n e => .inl ⟨u, n, e⟩, ?_, h.side.os, h.side.tape, h.side.output, rfl⟩, fun _ _ e => e, fun d i u x e => .inl ⟨u, x, e⟩⟩
  intro b c ty' fz hb hc
  by_cases e : b = g
  · subst e
    rw [h.old] at hc
    cases hc
    exact ⟨cur', h.new, h.len⟩
  · exact ⟨c, (h.same b e).trans hc, rfl⟩

theorem Wrote.ext2 {ρ : Rho} {w w' : World} {g : Nat} {cur cur' : Array Value} {ty : TypeId} (h : Wrote w w' g cur cur' ty) {d i u0 n0 u n : Nat} (hg : ρ d i u0 = some (g, n0)) (hn : ρ d i u = none) : Ext ρ w (updR ρ d i u (g, n)) w' := by
  have hx := h.ext (ρ := ρ) ⟨d, i, u0, n0, hg⟩
  refine ⟨⟨?_, hx.size, hx.keep, ?_, hx.shape, hx.os, hx.tape, hx.output, rfl⟩, fun _ _ e => .inr e, fun d' i' u' x e => ?_⟩
  rotate_left 2
  · rw [updR_at] at e
    split at e
    · rename_i e'; obtain ⟨rfl, rfl, rfl⟩ := e'; exact .inl ⟨u0, _, hg⟩
    · exact .inl ⟨u', x, e⟩
  · intro d' i' u' x e
    rw [updR_at]
    split
    · rename_i e'; obtain ⟨rfl, rfl, rfl⟩ := e'; rw [hn] at e; cases e
    · exact e
  · intro d' i' u' b m e
    rw [updR_at] at e
    split at e
    · rename_i e'; obtain ⟨rfl, rfl, rfl⟩ := e'; cases e; exact .inl ⟨u0, n0, hg⟩
    · exact .inl ⟨u', m, e⟩

theorem Wrote.cell {w w' : World} {g : Nat} {cur cur' : Array Value} {ty : TypeId} (h : Wrote w w' g cur cur' ty) (j : Nat) : w'.cell? ⟨g, j, none⟩ = cur'[j]? := by simp [World.cell?, h.new]
theorem Wrote.cell0 {w w' : World} {g : Nat} {cur cur' : Array Value} {ty : TypeId} (h : Wrote w w' g cur cur' ty) (j : Nat) : w.cell? ⟨g, j, none⟩ = cur[j]? := by simp [World.cell?, h.old]

theorem splice_get (l new : List PV) (off j : Nat) (h : off + new.length ≤ l.length) :
    (splice l off new)[j]? = if off ≤ j ∧ j < off + new.length then new[j - off]? else l[j]? := by
  unfold splice
  by_cases h1 : j < off
  · rw [if_neg (by omega), List.append_assoc, List.getElem?_append_left (by simp; omega), List.getElem?_take, if_pos h1]
  · by_cases h2 : j < off + new.length
    · rw [if_pos (by omega), List.append_assoc, List.getElem?_append_right (by simp; omega), List.getElem?_append_left (by simp; omega)]
      congr 1; simp; omega
    · rw [if_neg (by omega), List.getElem?_append_right (by simp; omega), List.getElem?_drop]
      congr 1; simp; omega

theorem splice_length (l new : List PV) (off : Nat) (h : off + new.length ≤ l.length) : (splice l off new).length = l.length := by
  unfold splice; simp; omega

/-- Cells of an object are written. -/
theorem HRel.write {ρ : Rho} {H : Heap} {w w' : World} (h : HRel ρ H w) {d i g n : Nat} {o : AObj} (ho : getO H d i = some o) (hr : ρ d i o.ver = some (g, n)) {cur cur' : Array Value} {ty : TypeId}
    (hw : Wrote w w' g cur cur' ty) {off : Nat} {cells : List PV} {vals : List Value} (hl : LV ρ w cells vals) (h1 : ∀ u ∈ vals, u.oneCell' = true) (hoff : off + cells.length ≤ o.cells.length)
    (hcur : ∀ j, cur'[j]? = if off ≤ j ∧ j < off + cells.length then vals[j - off]? else cur[j]?) (hd : dleL d cells = true) :
    HRel ρ (setO H d i { cells := splice o.cells off cells, ver := o.ver, lo := o.ver }) w' ∧ Ext ρ w ρ w' := by
  have hext := hw.ext (ρ := ρ) ⟨d, i, o.ver, n, hr⟩
  obtain ⟨o1, ho1, _, _, hn1, hc1, hd1, hlv1⟩ := h.obj _ _ _ _ _ hr
  rw [ho] at ho1; cases ho1
  refine ⟨⟨?_, ?_, ?_, h.res, fun b hg => Nat.lt_of_lt_of_le (h.low b hg) hext.size, fun d' i' => by rw [setO_some]; exact h.ex d' i', h.inj⟩, hext⟩
  · intro d' i' u b m e
    by_cases hdi : d = d' ∧ i = i'
    · obtain ⟨rfl, rfl⟩ := hdi
      obtain ⟨o2, ho2, hu, hm, hv, hc, _, _⟩ := h.obj _ _ _ _ _ e
      rw [ho] at ho2; cases ho2
      refine ⟨_, getO_setO_same ho, hu, by rw [splice_length _ _ _ hoff]; exact hm, fun e' => by rw [splice_length _ _ _ hoff]; exact hv e', fun hlo => ?_, dleL_splice hd1 hd, Nat.le_refl _⟩
      have hu' : u = o.ver := Nat.le_antisymm hu hlo
      subst hu'
      rw [hr] at e; cases e
      have hnn : n = o.cells.length := hn1 rfl
      rw [CV_iff]
      intro j c hj
      rw [List.getElem?_take] at hj
      split at hj
      case isFalse => cases hj
      rename_i hjn
      simp only [splice_get _ _ _ _ hoff] at hj
      rw [Nat.zero_add, hw.cell, hcur]
      split at hj
      · rename_i hin
        rw [if_pos hin]
        obtain ⟨v, hv1, hv2⟩ := LV_get _ _ hl _ _ hj
        exact ⟨v, hv1, h1 v (List.mem_of_getElem? hv1), VR.ext hext _ _ hv2⟩
      · rename_i hin
        rw [if_neg hin]
        have hcv := (CV_iff _ _ _).1 (hc1 hlv1) j c (by rw [List.getElem?_take, if_pos hjn]; exact hj)
        obtain ⟨v, hv1, hv2, hv3⟩ := hcv
        rw [Nat.zero_add, hw.cell0] at hv1
        exact ⟨v, hv1, hv2, VR.ext hext _ _ hv3⟩
    · obtain ⟨o2, ho2, hu, hm, hv, hc, hd2⟩ := h.obj _ _ _ _ _ e
      refine ⟨o2, by rw [getO_setO_ne hdi]; exact ho2, hu, hm, hv, fun hlo => ?_, hd2⟩
      refine CV.same hext (fun j _ => cell_eq_of_block (hw.same b ?_) _) (hc hlo)
      rintro rfl
      exact hdi (h.inj _ _ _ _ _ _ _ _ _ hr e)
  · intro d' i' u b m e
    obtain ⟨c, ty', hc, hm⟩ := h.block _ _ _ _ _ e
    by_cases hb : b = g
    · subst hb
      rw [hw.old] at hc; cases hc
      exact ⟨cur', _, hw.new, by rw [hw.len]; exact hm⟩
    · exact ⟨c, ty', (hw.same b hb).trans hc, hm⟩
  · intro d' i' u x o2 e ho2 u' hu'
    by_cases hdi : d = d' ∧ i = i'
    · obtain ⟨rfl, rfl⟩ := hdi
      rw [getO_setO_same ho] at ho2; cases ho2
      exact h.cov _ _ _ _ _ e ho u' hu'
    · rw [getO_setO_ne hdi] at ho2
      exact h.cov _ _ _ _ _ e ho2 u' hu'

theorem ver_none {ρ : Rho} {H : Heap} {w : World} (h : HRel ρ H w) {d i : Nat} {o : AObj} (ho : getO H d i = some o) : ρ d i (o.ver + 1) = none := by
  cases e : ρ d i (o.ver + 1) with
  | none => rfl
  | some x =>
    obtain ⟨b, n⟩ := x
    obtain ⟨o1, ho1, hu, _⟩ := h.obj _ _ _ _ _ e
    rw [ho] at ho1; cases ho1; omega

/-- A new version of an object: what it must be. -/
theorem HRel.grow {ρ : Rho} {H : Heap} {w w' : World} (h : HRel ρ H w) {d i g n : Nat} {o : AObj} (ho : getO H d i = some o) (hr : ρ d i o.ver = some (g, n)) {new : List PV} (hd : dleL d new = true)
    {g' : Nat} (hext : Ext ρ w (updR ρ d i (o.ver + 1) (g', o.cells.length + new.length)) w')
    (hfree : g' = g ∨ ((∀ d' i' u' m, ρ d' i' u' ≠ some (g', m)) ∧ w.heap.size ≤ g'))
    (hblk : ∃ cur ty, w'.heap[g']? = some (.cells cur ty (0, 0)) ∧ o.cells.length + new.length ≤ cur.size)
    (hnew : CV (updR ρ d i (o.ver + 1) (g', o.cells.length + new.length)) w' (o.cells ++ new) g' 0)
    (hold : ∀ b j, (∀ m, ρ d i o.ver = some (b, m) → j < m) → inR ρ b → w'.cell? ⟨b, j, none⟩ = w.cell? ⟨b, j, none⟩)
    (hblo : ∀ b cur ty, inR ρ b → w.heap[b]? = some (.cells cur ty (0, 0)) → ∃ cur', w'.heap[b]? = some (.cells cur' ty (0, 0)) ∧ cur'.size = cur.size) :
    HRel (updR ρ d i (o.ver + 1) (g', o.cells.length + new.length)) (setO H d i { cells := o.cells ++ new, ver := o.ver + 1, lo := o.lo }) w' := by
  obtain ⟨o1, ho1, _, _, hn1, hc1, hd1, hlv1⟩ := h.obj _ _ _ _ _ hr
  rw [ho] at ho1; cases ho1
  have hnn := hn1 rfl
  have hvn := ver_none h ho
  refine ⟨?_, ?_, ?_, ?_, fun b hg => Nat.lt_of_lt_of_le (h.low b hg) hext.size, fun d' i' => ?_, ?_⟩
  rotate_left 4
  · rw [setO_some]
    show ((d' = d ∧ i' = i) ∨ ρ.ex d' i') ↔ _
    rw [h.ex]
    constructor
    · rintro (⟨rfl, rfl⟩ | hh)
      · rw [ho]; rfl
      · exact hh
    · exact .inr
  rotate_left 4
  · intro d' i' u b m e hg
    rw [updR_at] at e
    split at e
    · cases e
      rcases hfree with rfl | ⟨_, hnl⟩
      · exact h.res _ _ _ _ _ hr hg
      · have := h.low _ hg; omega
    · exact h.res _ _ _ _ _ e hg
  rotate_left 1
  · intro d' i' u b m e
    by_cases hdi : d = d' ∧ i = i'
    · obtain ⟨rfl, rfl⟩ := hdi
      rw [updR_at] at e
      split at e
      · rename_i e'
        obtain ⟨_, _, rfl⟩ := e'
        cases e
        refine ⟨_, getO_setO_same ho, Nat.le_refl _, by simp, fun _ => by simp, fun _ => ?_, dleL_append hd1 hd, by simp; omega⟩
        have : ((o.cells ++ new).take (o.cells.length + new.length)) = o.cells ++ new := by rw [List.take_of_length_le]; simp
        rw [this]; exact hnew
      · rename_i e'
        obtain ⟨o2, ho2, hu, hm, hv, hc, _, _⟩ := h.obj _ _ _ _ _ e
        rw [ho] at ho2; cases ho2
        refine ⟨_, getO_setO_same ho, by simp; omega, by simp; omega, fun e'' => by simp at e''; omega, fun hlo => ?_, dleL_append hd1 hd, by simp; omega⟩
        rw [List.take_append_of_le_length hm]
        refine CV.same hext (fun j hj => hold b _ (fun m' hm' => ?_) ⟨_, _, _, _, e⟩) (hc hlo)
        rw [List.length_take] at hj
        rw [hr] at hm'; cases hm'; omega
    · obtain ⟨e0⟩ : Nonempty (ρ d' i' u = some (b, m)) := by
        rw [updR_at] at e; rw [if_neg (fun hh => hdi ⟨hh.1.symm, hh.2.1.symm⟩)] at e; exact ⟨e⟩
      obtain ⟨o2, ho2, hu, hm, hv, hc, hd2, hl2⟩ := h.obj _ _ _ _ _ e0
      refine ⟨o2, by rw [getO_setO_ne hdi]; exact ho2, hu, hm, hv, fun hlo => ?_, hd2, hl2⟩
      refine CV.same hext (fun j hj => hold b _ (fun m' hm' => ?_) ⟨_, _, _, _, e0⟩) (hc hlo)
      exact absurd (h.inj _ _ _ _ _ _ _ _ _ hm' e0) hdi
  · intro d' i' u b m e
    rw [updR_at] at e
    split at e
    · cases e; exact hblk
    · obtain ⟨c, ty', hc, hm⟩ := h.block _ _ _ _ _ e
      obtain ⟨c', hc', hs'⟩ := hblo b c ty' ⟨_, _, _, _, e⟩ hc
      exact ⟨c', ty', hc', by omega⟩
  · intro d' i' u x o2 e ho2 u' hu'
    by_cases hdi : d = d' ∧ i = i'
    · obtain ⟨rfl, rfl⟩ := hdi
      rw [getO_setO_same ho] at ho2; cases ho2
      by_cases e1 : u' = o.ver + 1
      · subst e1; exact ⟨_, by simp [updR_at]; rfl⟩
      · obtain ⟨y, hy⟩ := h.cov _ _ _ _ _ hr ho u' (by simp at hu'; omega)
        exact ⟨y, by rw [updR_at, if_neg (by simp [e1])]; exact hy⟩
    · rw [getO_setO_ne hdi] at ho2
      rw [updR_at] at e
      rw [if_neg (fun hh => hdi ⟨hh.1.symm, hh.2.1.symm⟩)] at e
      obtain ⟨y, hy⟩ := h.cov _ _ _ _ _ e ho2 u' hu'
      exact ⟨y, by rw [updR_at, if_neg (fun hh => hdi ⟨hh.1.symm, hh.2.1.symm⟩)]; exact hy⟩
  · intro d1 i1 u1 b n1 d2 i2 u2 n2 e1 e2
    rw [updR_at] at e1 e2
    split at e1 <;> split at e2
    · rename_i a1 a2; exact ⟨a1.1.trans a2.1.symm, a1.2.1.trans a2.2.1.symm⟩
    · rename_i a1 a2
      cases e1
      rcases hfree with rfl | ⟨hf, _⟩
      · have := h.inj _ _ _ _ _ _ _ _ _ hr e2; exact ⟨a1.1.trans this.1, a1.2.1.trans this.2⟩
      · exact absurd e2 (hf _ _ _ _)
    · rename_i a1 a2
      cases e2
      rcases hfree with rfl | ⟨hf, _⟩
      · have := h.inj _ _ _ _ _ _ _ _ _ e1 hr; exact ⟨this.1.trans a2.1.symm, this.2.trans a2.2.1.symm⟩
      · exact absurd e1 (hf _ _ _ _)
    · exact h.inj _ _ _ _ _ _ _ _ _ e1 e2

/-- An object grows in its block. -/
theorem HRel.growHere {ρ : Rho} {H : Heap} {w w' : World} (h : HRel ρ H w) {d i g n : Nat} {o : AObj} (ho : getO H d i = some o) (hr : ρ d i o.ver = some (g, n)) {cur cur' : Array Value} {ty : TypeId}
    (hw : Wrote w w' g cur cur' ty) {new : List PV} {vals : List Value} (hl : LV ρ w new vals) (h1 : ∀ u ∈ vals, u.oneCell' = true)
    (hcur : ∀ j, cur'[j]? = if o.cells.length ≤ j ∧ j < o.cells.length + new.length then vals[j - o.cells.length]? else cur[j]?) (hd : dleL d new = true) (hfit : o.cells.length + new.length ≤ cur.size) :
    HRel (updR ρ d i (o.ver + 1) (g, o.cells.length + new.length)) (setO H d i { cells := o.cells ++ new, ver := o.ver + 1, lo := o.lo }) w' ∧
      Ext ρ w (updR ρ d i (o.ver + 1) (g, o.cells.length + new.length)) w' := by
  obtain ⟨o1, ho1, _, _, hn1, hc1, hd1, hlv1⟩ := h.obj _ _ _ _ _ hr
  rw [ho] at ho1; cases ho1
  have hnn := hn1 rfl
  have hext := hw.ext2 (n := o.cells.length + new.length) hr (ver_none h ho)
  refine ⟨h.grow ho hr hd hext (.inl rfl) ⟨cur', ty, hw.new, by rw [hw.len]; exact hfit⟩ ?_ ?_ ?_, hext⟩
  · rw [CV_iff]
    intro j c hj
    rw [Nat.zero_add, hw.cell, hcur]
    by_cases hin : o.cells.length ≤ j
    · rw [List.getElem?_append_right hin] at hj
      obtain ⟨v, hv1, hv2⟩ := LV_get _ _ hl _ _ hj
      have hlt : j - o.cells.length < new.length := by
        rcases Nat.lt_or_ge (j - o.cells.length) new.length with h | h
        · exact h
        · rw [List.getElem?_eq_none h] at hj; cases hj
      rw [if_pos ⟨hin, by omega⟩]
      exact ⟨v, hv1, h1 v (List.mem_of_getElem? hv1), VR.ext hext _ _ hv2⟩
    · rw [if_neg (by omega)]
      rw [List.getElem?_append_left (by omega)] at hj
      obtain ⟨v, hv1, hv2, hv3⟩ := (CV_iff _ _ _).1 (hc1 hlv1) j c (by rw [List.getElem?_take, if_pos (by omega)]; exact hj)
      rw [Nat.zero_add, hw.cell0] at hv1
      exact ⟨v, hv1, hv2, VR.ext hext _ _ hv3⟩
  · intro b j hb _
    by_cases e : b = g
    · subst e
      have := hb n hr
      rw [hw.cell, hw.cell0, hcur, if_neg (by omega)]
    · exact cell_eq_of_block (hw.same b e) j
  · intro b c ty' hb hc
    by_cases e : b = g
    · subst e; rw [hw.old] at hc; cases hc; exact ⟨cur', hw.new, hw.len⟩
    · exact ⟨c, (hw.same b e).trans hc, rfl⟩

/-- An object grows and moves. -/
theorem HRel.growAway {ρ : Rho} {H : Heap} {w w' : World} (h : HRel ρ H w) {d i g n : Nat} {o : AObj} (ho : getO H d i = some o) (hr : ρ d i o.ver = some (g, n)) {arr : Array Value} {ty : TypeId}
    (hw : w'.heap = w.heap.push (.cells arr ty)) (hs : Side w w') {new : List PV} {vals : List Value} (hl : LV ρ w (o.cells ++ new) vals) (h1 : ∀ u ∈ vals, u.oneCell' = true)
    (ht : arr.toList.take (o.cells.length + new.length) = vals) (hd : dleL d new = true) :
    HRel (updR ρ d i (o.ver + 1) (w.heap.size, o.cells.length + new.length)) (setO H d i { cells := o.cells ++ new, ver := o.ver + 1, lo := o.lo }) w' ∧
      Ext ρ w (updR ρ d i (o.ver + 1) (w.heap.size, o.cells.length + new.length)) w' := by
  have hext := Ext.push (ρ := ρ) hw hs (fun d i u b n e => h.lt e) d i (o.ver + 1) (o.cells.length + new.length) (ver_none h ho) (.inl ⟨_, _, hr⟩)
  have hlen := LV_length _ _ hl
  have hsz : o.cells.length + new.length ≤ arr.size := by
    have := congrArg List.length ht; simp at this hlen; omega
  refine ⟨h.grow ho hr hd hext (.inr ⟨fun d' i' u' m e => ?_, Nat.le_refl _⟩) ⟨arr, ty, heap_push_new hw, hsz⟩ ?_ ?_ ?_, hext⟩
  · have := h.lt e; omega
  · refine CV_of_LV (LV.ext hext _ _ hl) h1 fun j v hj => ?_
    rw [Nat.zero_add, cell_push hw]
    rw [← ht, List.getElem?_take] at hj
    split at hj
    · simpa using hj
    · cases hj
  · rintro b j _ ⟨d', i', u', m, e⟩
    exact cell_eq_of_block (heap_push_old hw (h.lt e)) j
  · rintro b c ty' ⟨d', i', u', m, e⟩ hc
    exact ⟨c, (heap_push_old hw (h.lt e)).trans hc, rfl⟩

end Go.Proofs.YtbcmiddffckgmaaDoor.Am
