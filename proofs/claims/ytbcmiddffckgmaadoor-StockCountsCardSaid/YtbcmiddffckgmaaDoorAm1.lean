/- How values of the abstract machine stand for values of the machine: relations, and how they are kept. -/
import Derived.Test.YtbcmiddffckgmaaDoorAm0
set_option linter.unusedVariables false
set_option linter.unusedSimpArgs false
set_option linter.unnecessarySimpa false
namespace Go.Proofs.YtbcmiddffckgmaaDoor.Am
open Go

/-- Where the versions of objects lie: the block, and how many cells of it the version has. -/
structure Rho where
  at_ : Nat → Nat → Nat → Option (Nat × Nat)
  /-- Blocks that are set apart: no tree lies there. -/
  G : Nat → Prop
  /-- The objects that are there, told of or not. -/
  ex : Nat → Nat → Prop
instance : CoeFun Rho (fun _ => Nat → Nat → Nat → Option (Nat × Nat)) := ⟨Rho.at_⟩

def inR (ρ : Rho) (b : Nat) : Prop := ∃ d i u n, ρ d i u = some (b, n)
/-- A block that nobody writes. -/
def IM (ρ : Rho) (w : World) (b : Nat) : Prop := b < w.heap.size ∧ ¬ inR ρ b ∧ ¬ ρ.G b
def bsize (w : World) (b : Nat) : Nat := match w.heap[b]? with
  | some (.cells c _ _) => c.size
  | _ => 0

mutual
def VR (ρ : Rho) (w : World) : PV → Value → Prop
  | .bool b, v => v = .bool b
  | .int k n, v => v = .int k n
  | .str s, v => v = .string s
  | .nilp, v => v = .pointer none
  | .ref d i u off hi, v => ∃ b n, ρ d i u = some (b, n) ∧ v = .pointer (some ⟨b, off, none⟩) ∧ hi ≤ n
  | .tptr cs, v => ∃ b o, v = .pointer (some ⟨b, o, none⟩) ∧ IM ρ w b ∧ CV ρ w cs b o
  | .nils, v => v = .slice none 0 0
  | .sl d i u off len sz lim, v => ∃ b n cap, ρ d i u = some (b, n) ∧ v = .slice (some ⟨b, off, none⟩) len cap ∧ len ≤ cap ∧ off + len * sz ≤ n ∧
      (lim = true → cap = len) ∧ (lim = false → n ≤ off + cap * sz ∧ off + cap * sz ≤ bsize w b)
  | .tree es lim, v => ∃ a cap, v = .slice (some a) es.length cap ∧ es.length ≤ cap ∧ (lim = true → cap = es.length) ∧ (∃ sz, ∀ e ∈ es, e.length = sz) ∧
      (es ≠ [] → a.spot = none ∧ IM ρ w a.block ∧ CVV ρ w es a.block a.off)
  | .fn f c, v => ∃ vs : List Value, v = .func (.func f) #[] vs.toArray ∧ LV ρ w c vs
  | .nilf, v => v = .nilFunc
  | .nili, v => v = .nilIface
  | .agg cs, v => ∃ vs : List Value, v = .agg vs.toArray ∧ (∀ u ∈ vs, u.oneCell' = true) ∧ LV ρ w cs vs
  | .tup cs, v => ∃ vs : List Value, v = .tuple vs.toArray ∧ LV ρ w cs vs
def CV (ρ : Rho) (w : World) : List PV → Nat → Nat → Prop
  | [], _, _ => True
  | c :: cs, b, o => (∃ v, w.cell? ⟨b, o, none⟩ = some v ∧ v.oneCell' = true ∧ VR ρ w c v) ∧ CV ρ w cs b (o + 1)
def CVV (ρ : Rho) (w : World) : List (List PV) → Nat → Nat → Prop
  | [], _, _ => True
  | e :: es, b, o => CV ρ w e b o ∧ CVV ρ w es b (o + e.length)
def LV (ρ : Rho) (w : World) : List PV → List Value → Prop
  | [], vs => vs = []
  | c :: cs, vs => ∃ v vs', vs = v :: vs' ∧ VR ρ w c v ∧ LV ρ w cs vs'
end

/-- One world behind another: what is told of objects stays, what nobody writes is unchanged, what is new is fresh. -/
structure Ext0 (ρ : Rho) (w : World) (ρ' : Rho) (w' : World) : Prop where
  sub : ∀ d i u x, ρ d i u = some x → ρ' d i u = some x
  size : w.heap.size ≤ w'.heap.size
  keep : ∀ b, IM ρ w b → w'.heap[b]? = w.heap[b]?
  fresh : ∀ d i u b n, ρ' d i u = some (b, n) → (∃ u' n', ρ d i u' = some (b, n')) ∨ w.heap.size ≤ b
  shape : ∀ b cur ty fz, inR ρ b → w.heap[b]? = some (.cells cur ty fz) → ∃ cur', w'.heap[b]? = some (.cells cur' ty fz) ∧ cur'.size = cur.size
  os : w'.os = w.os
  tape : w'.tape = w.tape
  output : w'.output = w.output
  res : ρ'.G = ρ.G

theorem Ext0.refl (ρ : Rho) (w : World) : Ext0 ρ w ρ w :=
  ⟨fun _ _ _ _ h => h, Nat.le_refl _, fun _ _ => rfl, fun d i u b n h => .inl ⟨u, n, h⟩, fun b cur ty fz _ h => ⟨cur, h, rfl⟩, rfl, rfl, rfl, rfl⟩

theorem Ext0.im {ρ ρ' : Rho} {w w' : World} (h : Ext0 ρ w ρ' w') {b : Nat} (hb : IM ρ w b) : IM ρ' w' b := by
  refine ⟨Nat.lt_of_lt_of_le hb.1 h.size, ?_, by rw [h.res]; exact hb.2.2⟩
  rintro ⟨d, i, u, n, hr⟩
  rcases h.fresh d i u b n hr with ⟨u', n', h'⟩ | h'
  · exact hb.2.1 ⟨d, i, u', n', h'⟩
  · have := hb.1; omega

theorem Ext0.trans {ρ ρ1 ρ2 : Rho} {w w1 w2 : World} (h : Ext0 ρ w ρ1 w1) (h' : Ext0 ρ1 w1 ρ2 w2) : Ext0 ρ w ρ2 w2 := by
  refine ⟨fun d i u x e => h'.sub _ _ _ _ (h.sub _ _ _ _ e), Nat.le_trans h.size h'.size, fun b hb => (h'.keep b (h.im hb)).trans (h.keep b hb), ?_, ?_,
    h'.os.trans h.os, h'.tape.trans h.tape, h'.output.trans h.output, h'.res.trans h.res⟩
  · intro d i u b n e
    rcases h'.fresh d i u b n e with ⟨u', n', e'⟩ | e'
    · exact h.fresh d i u' b n' e'
    · exact .inr (Nat.le_trans h.size e')
  · intro b cur ty fz hb hc
    obtain ⟨cur1, hc1, hs1⟩ := h.shape b cur ty fz hb hc
    obtain ⟨d, i, u, n, hr⟩ := hb
    obtain ⟨cur2, hc2, hs2⟩ := h'.shape b cur1 ty fz ⟨d, i, u, n, h.sub _ _ _ _ hr⟩ hc1
    exact ⟨cur2, hc2, hs2.trans hs1⟩

theorem cell_eq_of_block {w w' : World} {b : Nat} (h : w'.heap[b]? = w.heap[b]?) (o : Nat) : w'.cell? ⟨b, o, none⟩ = w.cell? ⟨b, o, none⟩ := by
  simp [World.cell?, h]

theorem Ext0.bsize {ρ ρ' : Rho} {w w' : World} (h : Ext0 ρ w ρ' w') {b n : Nat} {d i u : Nat} (hr : ρ d i u = some (b, n)) (m : Nat) (hm : m ≤ bsize w b) : m ≤ bsize w' b := by
  unfold Am.bsize at hm ⊢
  cases hc : w.heap[b]? with
  | none => rw [hc] at hm; simp at hm; omega
  | some o =>
    cases o with
    | cells c ty fz =>
      obtain ⟨c', h1, h2⟩ := h.shape b c ty fz ⟨d, i, u, n, hr⟩ hc
      rw [hc] at hm; rw [h1]; simp at hm ⊢; omega
    | _ => rw [hc] at hm; simp at hm; omega

/- Values, cells and lists of them under an extension. -/
mutual
theorem VR.ext0 {ρ ρ' : Rho} {w w' : World} (h : Ext0 ρ w ρ' w') : ∀ (c : PV) (v : Value), VR ρ w c v → VR ρ' w' c v
  | .bool b, v, hv => hv
  | .int k n, v, hv => hv
  | .str s, v, hv => hv
  | .nilp, v, hv => hv
  | .ref d i u off hi, v, hv => by
    simp only [VR] at hv ⊢
    obtain ⟨b, n, h1, h2, h3⟩ := hv
    exact ⟨b, n, h.sub _ _ _ _ h1, h2, h3⟩
  | .tptr cs, v, hv => by
    simp only [VR] at hv ⊢
    obtain ⟨b, o, h1, h2, h3⟩ := hv
    exact ⟨b, o, h1, h.im h2, CV.ext0 h cs b o h2 h3⟩
  | .nils, v, hv => hv
  | .sl d i u off len sz lim, v, hv => by
    simp only [VR] at hv ⊢
    obtain ⟨b, n, cap, h1, h2, h3, h4, h5, h6⟩ := hv
    exact ⟨b, n, cap, h.sub _ _ _ _ h1, h2, h3, h4, h5, fun e => ⟨(h6 e).1, h.bsize h1 _ (h6 e).2⟩⟩
  | .tree es lim, v, hv => by
    simp only [VR] at hv ⊢
    obtain ⟨a, cap, h1, h2, h3, h4, h5⟩ := hv
    exact ⟨a, cap, h1, h2, h3, h4, fun e => ⟨(h5 e).1, h.im (h5 e).2.1, CVV.ext0 h es _ _ (h5 e).2.1 (h5 e).2.2⟩⟩
  | .fn f c, v, hv => by
    simp only [VR] at hv ⊢
    obtain ⟨vs, h1, h2⟩ := hv
    exact ⟨vs, h1, LV.ext0 h c vs h2⟩
  | .nilf, v, hv => hv
  | .nili, v, hv => hv
  | .agg cs, v, hv => by
    simp only [VR] at hv ⊢
    obtain ⟨vs, h1, h2, h3⟩ := hv
    exact ⟨vs, h1, h2, LV.ext0 h cs vs h3⟩
  | .tup cs, v, hv => by
    simp only [VR] at hv ⊢
    obtain ⟨vs, h1, h2⟩ := hv
    exact ⟨vs, h1, LV.ext0 h cs vs h2⟩
theorem CV.ext0 {ρ ρ' : Rho} {w w' : World} (h : Ext0 ρ w ρ' w') : ∀ (cs : List PV) (b o : Nat), IM ρ w b → CV ρ w cs b o → CV ρ' w' cs b o
  | [], _, _, _, _ => by simp [CV]
  | c :: cs, b, o, hb, hv => by
    simp only [CV] at hv ⊢
    obtain ⟨⟨v, h1, h2, h3⟩, h4⟩ := hv
    exact ⟨⟨v, (cell_eq_of_block (h.keep b hb) o).trans h1, h2, VR.ext0 h c v h3⟩, CV.ext0 h cs b (o + 1) hb h4⟩
theorem CVV.ext0 {ρ ρ' : Rho} {w w' : World} (h : Ext0 ρ w ρ' w') : ∀ (es : List (List PV)) (b o : Nat), IM ρ w b → CVV ρ w es b o → CVV ρ' w' es b o
  | [], _, _, _, _ => by simp [CVV]
  | e :: es, b, o, hb, hv => by
    simp only [CVV] at hv ⊢
    exact ⟨CV.ext0 h e b o hb hv.1, CVV.ext0 h es b _ hb hv.2⟩
theorem LV.ext0 {ρ ρ' : Rho} {w w' : World} (h : Ext0 ρ w ρ' w') : ∀ (cs : List PV) (vs : List Value), LV ρ w cs vs → LV ρ' w' cs vs
  | [], _, hv => by simpa [LV] using hv
  | c :: cs, vs, hv => by
    simp only [LV] at hv ⊢
    obtain ⟨v, vs', h1, h2, h3⟩ := hv
    exact ⟨v, vs', h1, VR.ext0 h c v h2, LV.ext0 h cs vs' h3⟩
end

/-- And no object that was there and not told of is told of now. -/
structure Ext (ρ : Rho) (w : World) (ρ' : Rho) (w' : World) : Prop extends Ext0 ρ w ρ' w' where
  exm : ∀ d i, ρ.ex d i → ρ'.ex d i
  newo : ∀ d i u x, ρ' d i u = some x → (∃ u' y, ρ d i u' = some y) ∨ ¬ ρ.ex d i

theorem Ext.refl (ρ : Rho) (w : World) : Ext ρ w ρ w := ⟨.refl _ _, fun _ _ h => h, fun d i u x h => .inl ⟨u, x, h⟩⟩
theorem Ext.trans {ρ ρ1 ρ2 : Rho} {w w1 w2 : World} (h : Ext ρ w ρ1 w1) (h' : Ext ρ1 w1 ρ2 w2) : Ext ρ w ρ2 w2 :=
  ⟨h.toExt0.trans h'.toExt0, fun d i e => h'.exm d i (h.exm d i e), fun d i u x e => by
    rcases h'.newo d i u x e with ⟨u', y, e'⟩ | e'
    · exact h.newo d i u' y e'
    · exact .inr fun hh => e' (h.exm d i hh)⟩
theorem Ext.im {ρ ρ' : Rho} {w w' : World} (h : Ext ρ w ρ' w') {b : Nat} (hb : IM ρ w b) : IM ρ' w' b := h.toExt0.im hb
theorem Ext.bsize {ρ ρ' : Rho} {w w' : World} (h : Ext ρ w ρ' w') {b n : Nat} {d i u : Nat} (hr : ρ d i u = some (b, n)) (m : Nat) (hm : m ≤ bsize w b) : m ≤ bsize w' b := h.toExt0.bsize hr m hm
theorem VR.ext {ρ ρ' : Rho} {w w' : World} (h : Ext ρ w ρ' w') (c : PV) (v : Value) (hv : VR ρ w c v) : VR ρ' w' c v := VR.ext0 h.toExt0 c v hv
theorem LV.ext {ρ ρ' : Rho} {w w' : World} (h : Ext ρ w ρ' w') (cs : List PV) (vs : List Value) (hv : LV ρ w cs vs) : LV ρ' w' cs vs := LV.ext0 h.toExt0 cs vs hv

/-- What holds of a heap: its objects lie where they are told to lie. -/
structure HRel (ρ : Rho) (H : Heap) (w : World) : Prop where
  obj : ∀ d i u b n, ρ d i u = some (b, n) → ∃ o, getO H d i = some o ∧ u ≤ o.ver ∧ n ≤ o.cells.length ∧ (u = o.ver → n = o.cells.length) ∧
      (o.lo ≤ u → CV ρ w (o.cells.take n) b 0) ∧ dleL d o.cells = true ∧ o.lo ≤ o.ver
  block : ∀ d i u b n, ρ d i u = some (b, n) → ∃ cur ty, w.heap[b]? = some (.cells cur ty (0, 0)) ∧ n ≤ cur.size
  cov : ∀ d i u x o, ρ d i u = some x → getO H d i = some o → ∀ u', u' ≤ o.ver → ∃ y, ρ d i u' = some y
  res : ∀ d i u b n, ρ d i u = some (b, n) → ¬ ρ.G b
  low : ∀ b, ρ.G b → b < w.heap.size
  ex : ∀ d i, ρ.ex d i ↔ (getO H d i).isSome = true
  inj : ∀ d i u b n d' i' u' n', ρ d i u = some (b, n) → ρ d' i' u' = some (b, n') → d = d' ∧ i = i'

theorem HRel.lt {ρ : Rho} {H : Heap} {w : World} (h : HRel ρ H w) {d i u b n : Nat} (hr : ρ d i u = some (b, n)) : b < w.heap.size := by
  obtain ⟨cur, ty, hc, _⟩ := h.block _ _ _ _ _ hr
  exact (Array.getElem?_eq_some_iff.1 hc).1

/- Heaps -/
theorem getO_lt : ∀ {H : Heap} {d i : Nat} {o : AObj}, getO H d i = some o → d < H.length
  | [], d, i, o, h => by simp [getO] at h
  | f :: fs, d, i, o, h => by
    simp only [getO] at h
    split at h
    · subst_vars; simp
    · have := getO_lt h; simp; omega

theorem getO_setO_same : ∀ {H : Heap} {d i : Nat} {o o' : AObj}, getO H d i = some o → getO (setO H d i o') d i = some o'
  | [], d, i, o, o', h => by simp [getO] at h
  | f :: fs, d, i, o, o', h => by
    simp only [getO] at h
    split at h
    · rename_i e
      have hl : i < f.length := by
        rcases Nat.lt_or_ge i f.length with h1 | h1
        · exact h1
        · rw [List.getElem?_eq_none h1] at h; cases h
      simp [setO, getO, e, hl]
    · rename_i e
      simp [setO, getO, e, getO_setO_same h, setO_length]
where
  setO_length : ∀ {H : Heap} {d i : Nat} {o : AObj}, (setO H d i o).length = H.length := by
    intro H d i o
    induction H with
    | nil => rfl
    | cons f fs ih => simp only [setO]; split <;> simp [ih]

theorem setO_length {H : Heap} {d i : Nat} {o : AObj} : (setO H d i o).length = H.length := getO_setO_same.setO_length

theorem getO_setO_ne : ∀ {H : Heap} {d i d' i' : Nat} {o' : AObj}, ¬ (d = d' ∧ i = i') → getO (setO H d i o') d' i' = getO H d' i'
  | [], d, i, d', i', o', h => rfl
  | f :: fs, d, i, d', i', o', h => by
    simp only [setO]
    split
    · rename_i e
      simp only [getO]
      split
      · rename_i e'
        have : i ≠ i' := fun hi => h ⟨by omega, hi⟩
        rw [List.getElem?_set_ne this]
      · rfl
    · rename_i e
      simp only [getO, setO_length]
      split
      · rfl
      · exact getO_setO_ne h

theorem getO_pushO {f : List AObj} {fs : Heap} {o : AObj} {d i : Nat} : getO (pushO (f :: fs) o) d i = if d = fs.length ∧ i = f.length then some o else getO (f :: fs) d i := by
  simp only [pushO, getO]
  by_cases e : d = fs.length
  · by_cases e' : i = f.length
    · simp [e, e']
    · simp only [e, if_true, true_and, e', if_false]
      rcases Nat.lt_or_ge i f.length with h | h
      · rw [List.getElem?_append_left h]
      · rw [List.getElem?_append_right h, List.getElem?_eq_none h, List.getElem?_eq_none (by simp; omega)]
  · simp [e]

end Go.Proofs.YtbcmiddffckgmaaDoor.Am
