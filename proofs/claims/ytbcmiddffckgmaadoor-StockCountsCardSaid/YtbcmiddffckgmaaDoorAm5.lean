/- Slice expressions, sources, append, copy, make. -/
import Derived.Test.YtbcmiddffckgmaaDoorAm4
set_option linter.unusedVariables false
set_option linter.unusedSimpArgs false
set_option linter.unnecessarySimpa false
namespace Go.Proofs.YtbcmiddffckgmaaDoor.Am
open Go

def OV (ρ : Rho) (w : World) : Option PV → Option Value → Prop
  | none, v => v = none
  | some p, v => ∃ u, v = some u ∧ VR ρ w p u

theorem run_bound {P : Program} {ρ : Rho} {w : World} {n : PV} {nv : Value} {k y : Nat} {code : BoundsCode} (h : idx n = some k) (hv : VR ρ w n nv) (hy : k ≤ y) : (Instr.sliceBound nv y code).run P w = .ok k w := by
  obtain ⟨kd, i, rfl, hi0, hik⟩ := idx_int h
  simp only [VR] at hv
  subst hv
  have h1 : i ≤ (y : Int) := by omega
  simp [Instr.sliceBound, asIntOf, hi0, h1, hik]

theorem run_bounds {P : Program} {ρ : Rho} {w : World} (isSlice : Bool) {len cap : Nat} {low high mx : Option PV} {lowv highv mxv : Option Value} (h1 : OV ρ w low lowv) (h2 : OV ρ w high highv) (h3 : OV ρ w mx mxv)
    (hv : ¬ (high.isNone = true ∧ mx.isSome = true)) {l h m : Nat} (e1 : bnd low 0 = some l) (e2 : bnd high len = some h) (e3 : bnd mx cap = some m) (hlh : l ≤ h) (hhm : h ≤ m) (hmc : m ≤ cap) :
    (Instr.sliceBounds isSlice len cap lowv highv mxv).run P w = .ok (l, h, m) w := by
  have hlow : (lowv = none ∧ l = 0) ∨ ∃ u, lowv = some u ∧ ∀ code : BoundsCode, (Instr.sliceBound u h code).run P w = .ok l w := by
    cases low with
    | none => simp only [OV] at h1; simp [bnd] at e1; exact .inl ⟨h1, e1.symm⟩
    | some a => simp only [OV] at h1; obtain ⟨u, rfl, h1⟩ := h1; simp only [bnd] at e1; exact .inr ⟨u, rfl, fun code => run_bound e1 h1 hlh⟩
  have hhigh : (highv = none ∧ h = len ∧ high = none) ∨ ∃ u, highv = some u ∧ ∀ code : BoundsCode, (Instr.sliceBound u m code).run P w = .ok h w := by
    cases high with
    | none => simp only [OV] at h2; simp [bnd] at e2; exact .inl ⟨h2, e2.symm, rfl⟩
    | some a => simp only [OV] at h2; obtain ⟨u, rfl, h2⟩ := h2; simp only [bnd] at e2; exact .inr ⟨u, rfl, fun code => run_bound e2 h2 hhm⟩
  have hmx : (mxv = none ∧ m = cap ∧ mx = none) ∨ ∃ u, mxv = some u ∧ mx.isSome = true ∧ ∀ code : BoundsCode, (Instr.sliceBound u cap code).run P w = .ok m w := by
    cases mx with
    | none => simp only [OV] at h3; simp [bnd] at e3; exact .inl ⟨h3, e3.symm, rfl⟩
    | some a => simp only [OV] at h3; obtain ⟨u, rfl, h3⟩ := h3; simp only [bnd] at e3; exact .inr ⟨u, rfl, rfl, fun code => run_bound e3 h3 hmc⟩
  rcases hmx with ⟨rfl, rfl, rfl⟩ | ⟨u3, rfl, hm3, h3'⟩ <;> rcases hhigh with ⟨rfl, rfl, rfl⟩ | ⟨u2, rfl, h2'⟩ <;> rcases hlow with ⟨rfl, rfl⟩ | ⟨u1, rfl, h1'⟩ <;>
    first
      | (simp [Instr.sliceBounds, *]; done)
      | (exact absurd ⟨rfl, hm3⟩ hv)

theorem VR_sl {ρ : Rho} {w : World} {d i u off len sz : Nat} {lim : Bool} {v : Value} (h : ∃ b n cap, ρ d i u = some (b, n) ∧ v = .slice (some ⟨b, off, none⟩) len cap ∧ len ≤ cap ∧ off + len * sz ≤ n ∧
      (lim = true → cap = len) ∧ (lim = false → n ≤ off + cap * sz ∧ off + cap * sz ≤ bsize w b)) : VR ρ w (.sl d i u off len sz lim) v := by simpa only [VR] using h
theorem VR_tree {ρ : Rho} {w : World} {es : List (List PV)} {lim : Bool} {v : Value} (h : ∃ a cap, v = .slice (some a) es.length cap ∧ es.length ≤ cap ∧ (lim = true → cap = es.length) ∧ (∃ sz, ∀ e ∈ es, e.length = sz) ∧
      (es ≠ [] → a.spot = none ∧ IM ρ w a.block ∧ CVV ρ w es a.block a.off)) : VR ρ w (.tree es lim) v := by simpa only [VR] using h

theorem bnd_none {x : Option PV} {a b k : Nat} (hx : x.isSome = false) (h : bnd x a = some k) : bnd x b = some b ∧ k = a := by
  cases x with
  | none => simp [bnd] at h ⊢; exact h.symm
  | some v => simp at hx
theorem bnd_some {x : Option PV} {a b k : Nat} (hx : x.isSome = true) (h : bnd x a = some k) : bnd x b = some k := by
  cases x with
  | none => simp at hx
  | some v => simpa [bnd] using h

theorem sliceP_sound {P : Program} {ρ : Rho} {H : Heap} {w : World} (hr : HRel ρ H w) {t : TypeId} {x v : PV} {xv : Value} {low high mx : Option PV} {lowv highv mxv : Option Value} (h : sliceP P H t x low high mx = some v) (hx : VR ρ w x xv)
    (h1 : OV ρ w low lowv) (h2 : OV ρ w high highv) (h3 : OV ρ w mx mxv) (hv : ¬ (high.isNone = true ∧ mx.isSome = true)) :
    ∃ val, (Instr.sliceAt t xv lowv highv mxv).run P w = .ok val w ∧ VR ρ w v val := by
  unfold sliceP at h
  split at h
  · -- a text
    rename_i s hu
    split at h
    case isTrue => cases h
    rename_i hm
    simp only [Option.bind_eq_some_iff] at h
    obtain ⟨hh, e2, l, e1, h⟩ := h
    split at h
    case isFalse => cases h
    rename_i hc
    cases h
    simp only [VR] at hx
    subst hx
    have hm' : mx.isSome = false := by simpa using hm
    have hmv : mxv = none := by cases mx with
      | none => simpa [OV] using h3
      | some a => simp at hm'
    have hb := run_bounds (P := P) false h1 h2 (mx := none) (mxv := none) (cap := s.size) (by simp [OV]) (by simp) e1 e2 (by simp [bnd]) hc.1 hc.2 (Nat.le_refl _)
    refine ⟨.string (s.extract l hh), ?_, by simp [VR]⟩
    subst hmv
    simp [Instr.sliceAt, Instr.slice, run_underlying hu, hb]
  · -- a nil slice
    rename_i e hu
    simp only [Option.bind_eq_some_iff] at h
    obtain ⟨hh, e2, l, e1, m, e3, h⟩ := h
    split at h
    case isFalse => cases h
    rename_i hc
    obtain ⟨rfl, rfl, rfl, hsome⟩ := hc
    cases h
    simp only [VR] at hx
    subst hx
    have hb := run_bounds (P := P) true h1 h2 h3 hv e1 e2 e3 (Nat.le_refl _) (Nat.le_refl _) (Nat.le_refl _)
    obtain ⟨sz, hsz'⟩ := Option.isSome_iff_exists.1 hsome
    have hsz := run_sizeOf hsz' w
    refine ⟨.slice none 0 0, ?_, by simp [VR]⟩
    simp [Instr.sliceAt, Instr.slice, run_underlying hu, hb, hsz]
  · -- a slice of an object
    rename_i elem d i u off len sz lim hu
    simp only [Option.bind_eq_some_iff] at h
    obtain ⟨sz', hsz, hh, e2, l, e1, m, e3, h⟩ := h
    split at h
    case isFalse => cases h
    rename_i hc
    obtain ⟨rfl, hsz0, hlh, hhl, rfl⟩ := hc
    simp only [VR] at hx
    obtain ⟨b, n, cap, g1, rfl, g3, g4, g5, g6⟩ := hx
    have hs := run_sizeOf hsz w
    have hle : off + m * sz' ≤ off + len * sz' := by have := Nat.mul_le_mul_right sz' hhl; omega
    have hsub : l * sz' + (m - l) * sz' = m * sz' := by rw [← Nat.add_mul]; congr 1; omega
    split at h
    · rename_i hmx
      have hb := run_bounds (P := P) true h1 h2 h3 hv e1 e2 (bnd_some (b := cap) hmx e3) hlh (Nat.le_refl _) (by omega)
      split at h
      · rename_i hl
        cases h
        subst hl
        refine ⟨.slice (some ⟨b, off, none⟩) 0 0, by simp [Instr.sliceAt, Instr.slice, run_underlying hu, hb, hs], ?_⟩
        simp only [VR]
        exact ⟨_, 0, rfl, Nat.le_refl _, fun _ => rfl, ⟨0, by simp⟩, fun h => absurd rfl h⟩
      · rename_i hl
        cases h
        have hne : m ≠ l := fun e => hl e.symm
        refine ⟨.slice (some ⟨b, off + l * sz', none⟩) (m - l) (m - l), by simp [Instr.sliceAt, Instr.slice, run_underlying hu, hb, hs, hne, addr_add], ?_⟩
        refine VR_sl ?_
        exact ⟨b, n, m - l, g1, rfl, Nat.le_refl _, by omega, fun _ => rfl, fun e => by cases e⟩
    · rename_i hmx
      have hmx' : mx.isSome = false := by simpa using hmx
      have hb := run_bounds (P := P) true h1 h2 h3 hv e1 e2 (bnd_none (b := cap) hmx' e3).1 hlh (by omega) (Nat.le_refl _)
      have hadd : (if cap = l then (⟨b, off, none⟩ : Addr) else (⟨b, off, none⟩ : Addr).add (l * sz')) = if cap = l then ⟨b, off, none⟩ else ⟨b, off + l * sz', none⟩ := by simp [addr_add]
      have hrun : (Instr.sliceAt t (.slice (some ⟨b, off, none⟩) len cap) lowv highv mxv).run P w = .ok (.slice (some (if cap = l then ⟨b, off, none⟩ else ⟨b, off + l * sz', none⟩)) (m - l) (cap - l)) w := by
        by_cases hcl : cap = l
        · rw [hcl] at hb; simp [Instr.sliceAt, Instr.slice, run_underlying hu, hb, hs, hcl]
        · simp [Instr.sliceAt, Instr.slice, run_underlying hu, hb, hs, hcl, addr_add]
      split at h
      · rename_i hl
        cases h
        refine ⟨_, hrun, ?_⟩
        simp only [VR]
        have hml : m - l = 0 := by omega
        rw [hml]
        exact ⟨_, cap - l, rfl, by simp, fun e => by have := g5 e; simp; omega, ⟨0, by simp⟩, fun h => absurd rfl h⟩
      · rename_i hl
        have haddr : (if cap = l then (⟨b, off, none⟩ : Addr) else ⟨b, off + l * sz', none⟩) = ⟨b, off + l * sz', none⟩ := by
          split
          · rename_i hcl
            have : l = 0 := by
              rcases Nat.eq_zero_or_pos l with h | h
              · exact h
              · exact absurd ⟨by omega, h⟩ hl
            simp [this]
          · rfl
        rw [haddr] at hrun
        have hcs : l * sz' + (cap - l) * sz' = cap * sz' := by rw [← Nat.add_mul]; congr 1; omega
        split at h
        · rename_i hlim
          simp only [Option.bind_eq_some_iff] at h
          obtain ⟨o, ho, h⟩ := h
          split at h
          case isFalse => cases h
          rename_i hoo
          cases h
          obtain ⟨o1, ho1, _, _, hn1, _⟩ := hr.obj _ _ _ _ _ g1
          rw [ho] at ho1; cases ho1
          have hnn := hn1 hoo.1
          obtain ⟨cur, ty, hcur, hsz1⟩ := hr.block _ _ _ _ _ g1
          have hbs : bsize w b = cur.size := by simp [bsize, hcur]
          have hcap := g5 hlim.1
          subst hcap
          refine ⟨_, hrun, ?_⟩
          refine VR_sl ?_
          exact ⟨b, n, _, g1, rfl, by omega, by omega, (fun e => by cases e), fun _ => ⟨by omega, by rw [hbs]; omega⟩⟩
        · rename_i hlim
          cases h
          refine ⟨_, hrun, ?_⟩
          refine VR_sl ?_
          refine ⟨b, n, _, g1, rfl, by omega, by omega, fun e => ?_, fun e => ?_⟩
          · have := g5 e
            have : ¬ m < len := fun hlt => hlim ⟨e, hlt⟩
            omega
          · have := g6 e; exact ⟨by omega, by omega⟩
  · -- a tree
    rename_i elem es lim hu
    simp only [Option.bind_eq_some_iff] at h
    obtain ⟨hh, e2, l, e1, m, e3, h⟩ := h
    split at h
    case isFalse => cases h
    rename_i hc
    obtain ⟨hlh, hhl, rfl, hsome, hel⟩ := hc
    cases h
    obtain ⟨sz, hsz'⟩ := Option.isSome_iff_exists.1 hsome
    have hs := run_sizeOf hsz' w
    simp only [VR] at hx
    obtain ⟨a, cap, rfl, g2, g3, ⟨sz0, g4⟩, g5⟩ := hx
    obtain ⟨capm, hbm, hcm, hcap, hlimm⟩ : ∃ cm, bnd mx cap = some cm ∧ m ≤ cm ∧ cm ≤ cap ∧ ((mx.isSome || (lim && decide (m = es.length))) = true → cm = m) := by
      cases hmx : mx.isSome with
      | true => exact ⟨m, bnd_some hmx e3, Nat.le_refl _, by omega, fun _ => rfl⟩
      | false => exact ⟨cap, (bnd_none hmx e3).1, by omega, Nat.le_refl _, fun e => by simp at e; have := g3 e.1; omega⟩
    have hb := run_bounds (P := P) true h1 h2 h3 hv e1 e2 hbm hlh hcm hcap
    refine ⟨.slice (some (if capm = l then a else a.add (l * sz))) (m - l) (capm - l), ?_, ?_⟩
    · by_cases hcl : capm = l
      · rw [hcl] at hb; simp [Instr.sliceAt, Instr.slice, run_underlying hu, hb, hs, hcl]
      · simp [Instr.sliceAt, Instr.slice, run_underlying hu, hb, hs, hcl]
    · simp only [VR]
      have hlen : (List.take (m - l) (List.drop l es)).length = m - l := by simp; omega
      refine ⟨_, capm - l, by rw [hlen], by rw [hlen]; omega, fun e => by rw [hlen, hlimm e], ⟨sz0, fun e he => g4 e (List.mem_of_mem_drop (List.mem_of_mem_take he))⟩, fun hne => ?_⟩
      have hpos : l < m := by
        rcases Nat.lt_or_ge l m with h | h
        · exact h
        · exact absurd (List.eq_nil_of_length_eq_zero (by omega)) hne
      have hesne : es ≠ [] := by intro e; subst e; simp at hhl; omega
      obtain ⟨g6, g7, g8⟩ := g5 hesne
      have hcl : ¬ (capm = l) := by omega
      rw [if_neg hcl]
      have ha : a = ⟨a.block, a.off, none⟩ := by cases a; simp at g6; subst g6; rfl
      have hoff : l * sz = l * sz0 := by
        rcases hel with h | h | h
        · subst h; simp
        · omega
        · cases es with
          | nil => simp at hesne
          | cons e0 es' =>
            have : e0.length = sz := by simp [hsz'] at h; exact h
            rw [← this, g4 e0 (by simp)]
      rw [ha, addr_add, hoff]
      refine ⟨rfl, g7, ?_⟩
      rw [CVV_flat] at g8 ⊢
      have key : (List.take (m - l) (List.drop l es)).flatten = ((es.flatten.drop (l * sz0)).take ((m - l) * sz0)) := by
        have hd : ∀ (k : Nat) (xs : List (List PV)), (∀ e ∈ xs, e.length = sz0) → (xs.drop k).flatten = xs.flatten.drop (k * sz0) := by
          intro k
          induction k with
          | zero => intro xs _; simp
          | succ k ih =>
            intro xs hx
            cases xs with
            | nil => simp
            | cons e xs =>
              simp only [List.drop_succ_cons, List.flatten_cons]
              rw [ih xs (fun e he => hx e (by simp [he])), show (k + 1) * sz0 = e.length + k * sz0 by rw [hx e (by simp), Nat.add_mul]; omega, ← List.drop_drop, List.drop_left]
        have ht : ∀ (k : Nat) (xs : List (List PV)), (∀ e ∈ xs, e.length = sz0) → (xs.take k).flatten = xs.flatten.take (k * sz0) := by
          intro k
          induction k with
          | zero => intro xs _; simp
          | succ k ih =>
            intro xs hx
            cases xs with
            | nil => simp
            | cons e xs =>
              simp only [List.take_succ_cons, List.flatten_cons]
              rw [ih xs (fun e he => hx e (by simp [he])), show (k + 1) * sz0 = e.length + k * sz0 by rw [hx e (by simp), Nat.add_mul]; omega, List.take_length_add_append]
        rw [ht _ _ (fun e he => g4 e (List.mem_of_mem_drop he)), hd _ _ g4]
      rw [key]
      exact CV_sub g8 _ _
  · -- an array
    rename_i n elem d i u off hi hu
    simp only [Option.bind_eq_some_iff] at h
    obtain ⟨sz, hsz, hh, e2, l, e1, m, e3, h⟩ := h
    split at h
    case isFalse => cases h
    rename_i hc
    obtain ⟨hsz0, hlh, rfl, rfl, hhi⟩ := hc
    have hs := run_sizeOf hsz w
    simp only [VR] at hx
    obtain ⟨b, nn, g1, rfl, g3⟩ := hx
    have hb := run_bounds (P := P) false h1 h2 h3 hv e1 e2 e3 hlh (Nat.le_refl _) (Nat.le_refl _)
    have hsub : l * sz + (m - l) * sz = m * sz := by rw [← Nat.add_mul]; congr 1; omega
    split at h
    · rename_i hl
      cases h
      subst hl
      refine ⟨.slice (some ⟨b, off, none⟩) 0 0, by simp [Instr.sliceAt, Instr.sureAddr, run_underlying hu, hb, hs], ?_⟩
      simp only [VR]
      exact ⟨_, 0, rfl, Nat.le_refl _, fun _ => rfl, ⟨0, by simp⟩, fun h => absurd rfl h⟩
    · rename_i hl
      cases h
      have hne : m ≠ l := fun e => hl e.symm
      refine ⟨.slice (some ⟨b, off + l * sz, none⟩) (m - l) (m - l), by simp [Instr.sliceAt, Instr.sureAddr, run_underlying hu, hb, hs, hne, addr_add], ?_⟩
      refine VR_sl ?_
      exact ⟨b, nn, m - l, g1, rfl, Nat.le_refl _, by omega, fun _ => rfl, fun e => by cases e⟩
  · cases h

end Go.Proofs.YtbcmiddffckgmaaDoor.Am
