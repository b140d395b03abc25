/- A relation cut to a part of the objects; the end of a call. -/
import Derived.Test.YtbcmiddffckgmaaDoorAm8
set_option linter.unusedVariables false
set_option linter.unusedSimpArgs false
set_option linter.unnecessarySimpa false
namespace Go.Proofs.YtbcmiddffckgmaaDoor.Am
open Go

mutual
def rok (p : Nat → Nat → Bool) : PV → Bool
  | .ref d i _ _ _ => p d i
  | .sl d i _ _ _ _ _ => p d i
  | .tptr cs => rokL p cs
  | .tree es _ => rokLL p es
  | .fn _ c => rokL p c
  | .agg cs => rokL p cs
  | .tup vs => rokL p vs
  | .bool _ => true
  | .int _ _ => true
  | .str _ => true
  | .nilp => true
  | .nils => true
  | .nilf => true
  | .nili => true
def rokL (p : Nat → Nat → Bool) : List PV → Bool
  | [] => true
  | c :: cs => rok p c && rokL p cs
def rokLL (p : Nat → Nat → Bool) : List (List PV) → Bool
  | [] => true
  | e :: es => rokL p e && rokLL p es
end

/-- A relation cut to some objects; the blocks of the others are set apart, if so wanted. -/
def cutR (ρ : Rho) (p : Nat → Nat → Bool) (G : Nat → Prop) : Rho := ⟨fun d i u => if p d i then ρ d i u else none, G, fun d i => p d i = true ∧ ρ.ex d i⟩
theorem cutR_at (ρ : Rho) (p : Nat → Nat → Bool) (G : Nat → Prop) (d i u : Nat) : cutR ρ p G d i u = if p d i then ρ d i u else none := rfl

theorem cutR_some {ρ : Rho} {p : Nat → Nat → Bool} {G : Nat → Prop} {d i u : Nat} {x : Nat × Nat} (h : cutR ρ p G d i u = some x) : ρ d i u = some x ∧ p d i = true := by
  rw [cutR_at] at h
  split at h
  · rename_i hp; exact ⟨h, hp⟩
  · cases h

theorem cutR_of {ρ : Rho} {p : Nat → Nat → Bool} {G : Nat → Prop} {d i u : Nat} {x : Nat × Nat} (h : ρ d i u = some x) (hp : p d i = true) : cutR ρ p G d i u = some x := by
  rw [cutR_at, if_pos hp]; exact h

/-- Another relation in the same world: what it must have of the old one, as far as a predicate goes. -/
structure Chg (ρ ρ' : Rho) (w : World) (p : Nat → Nat → Bool) : Prop where
  sub : ∀ d i u x, ρ d i u = some x → p d i = true → ρ' d i u = some x
  im : ∀ b, IM ρ w b → IM ρ' w b

theorem Chg.cut (ρ : Rho) (w : World) (p : Nat → Nat → Bool) : Chg ρ (cutR ρ p ρ.G) w p :=
  ⟨fun _ _ _ _ h hp => cutR_of h hp, fun b h => ⟨h.1, fun ⟨d, i, u, n, e⟩ => h.2.1 ⟨d, i, u, n, (cutR_some e).1⟩, h.2.2⟩⟩

/- References as far as a predicate goes: the relation, changed so, still holds. -/
mutual
theorem VR.chg {ρ ρ' : Rho} {w : World} {p : Nat → Nat → Bool} (h : Chg ρ ρ' w p) : ∀ (c : PV) (v : Value), rok p c = true → VR ρ w c v → VR ρ' w c v
  | .bool b, v, _, hv => hv
  | .int k n, v, _, hv => hv
  | .str s, v, _, hv => hv
  | .nilp, v, _, hv => hv
  | .ref d i u off hi, v, hp, hv => by
    simp only [VR] at hv ⊢
    simp only [rok] at hp
    obtain ⟨b, n, h1, h2, h3⟩ := hv
    exact ⟨b, n, h.sub _ _ _ _ h1 hp, h2, h3⟩
  | .tptr cs, v, hp, hv => by
    simp only [VR] at hv ⊢
    simp only [rok] at hp
    obtain ⟨b, o, h1, h2, h3⟩ := hv
    exact ⟨b, o, h1, h.im _ h2, CV.chg h cs b o hp h3⟩
  | .nils, v, _, hv => hv
  | .sl d i u off len sz lim, v, hp, hv => by
    simp only [VR] at hv ⊢
    simp only [rok] at hp
    obtain ⟨b, n, cap, h1, h2⟩ := hv
    exact ⟨b, n, cap, h.sub _ _ _ _ h1 hp, h2⟩
  | .tree es lim, v, hp, hv => by
    simp only [VR] at hv ⊢
    simp only [rok] at hp
    obtain ⟨a, cap, h1, h2, h3, h4, h5⟩ := hv
    exact ⟨a, cap, h1, h2, h3, h4, fun e => ⟨(h5 e).1, h.im _ (h5 e).2.1, CVV.chg h es _ _ hp (h5 e).2.2⟩⟩
  | .fn f c, v, hp, hv => by
    simp only [VR] at hv ⊢
    simp only [rok] at hp
    obtain ⟨vs, h1, h2⟩ := hv
    exact ⟨vs, h1, LV.chg h c vs hp h2⟩
  | .nilf, v, _, hv => hv
  | .nili, v, _, hv => hv
  | .agg cs, v, hp, hv => by
    simp only [VR] at hv ⊢
    simp only [rok] at hp
    obtain ⟨vs, h1, h2, h3⟩ := hv
    exact ⟨vs, h1, h2, LV.chg h cs vs hp h3⟩
  | .tup cs, v, hp, hv => by
    simp only [VR] at hv ⊢
    simp only [rok] at hp
    obtain ⟨vs, h1, h2⟩ := hv
    exact ⟨vs, h1, LV.chg h cs vs hp h2⟩
theorem CV.chg {ρ ρ' : Rho} {w : World} {p : Nat → Nat → Bool} (h : Chg ρ ρ' w p) : ∀ (cs : List PV) (b o : Nat), rokL p cs = true → CV ρ w cs b o → CV ρ' w cs b o
  | [], _, _, _, _ => by simp [CV]
  | c :: cs, b, o, hp, hv => by
    simp only [CV] at hv ⊢
    simp only [rokL, Bool.and_eq_true] at hp
    obtain ⟨⟨v, h1, h2, h3⟩, h4⟩ := hv
    exact ⟨⟨v, h1, h2, VR.chg h c v hp.1 h3⟩, CV.chg h cs b (o + 1) hp.2 h4⟩
theorem CVV.chg {ρ ρ' : Rho} {w : World} {p : Nat → Nat → Bool} (h : Chg ρ ρ' w p) : ∀ (es : List (List PV)) (b o : Nat), rokLL p es = true → CVV ρ w es b o → CVV ρ' w es b o
  | [], _, _, _, _ => by simp [CVV]
  | e :: es, b, o, hp, hv => by
    simp only [CVV] at hv ⊢
    simp only [rokLL, Bool.and_eq_true] at hp
    exact ⟨CV.chg h e b o hp.1 hv.1, CVV.chg h es b _ hp.2 hv.2⟩
theorem LV.chg {ρ ρ' : Rho} {w : World} {p : Nat → Nat → Bool} (h : Chg ρ ρ' w p) : ∀ (cs : List PV) (vs : List Value), rokL p cs = true → LV ρ w cs vs → LV ρ' w cs vs
  | [], _, _, hv => by simpa [LV] using hv
  | c :: cs, vs, hp, hv => by
    simp only [LV] at hv ⊢
    simp only [rokL, Bool.and_eq_true] at hp
    obtain ⟨v, vs', h1, h2, h3⟩ := hv
    exact ⟨v, vs', h1, VR.chg h c v hp.1 h2, LV.chg h cs vs' hp.2 h3⟩
end

/- What stands for a value has its references where the relation has them. -/
mutual
theorem VR.rok {ρ : Rho} {w : World} {p : Nat → Nat → Bool} (hD : ∀ d i u x, ρ d i u = some x → p d i = true) : ∀ (c : PV) (v : Value), VR ρ w c v → rok p c = true
  | .bool b, v, hv => by simp [Am.rok]
  | .int k n, v, hv => by simp [Am.rok]
  | .str s, v, hv => by simp [Am.rok]
  | .nilp, v, hv => by simp [Am.rok]
  | .ref d i u off hi, v, hv => by
    simp only [VR] at hv
    obtain ⟨b, n, h1, h2, h3⟩ := hv
    simpa [Am.rok] using hD _ _ _ _ h1
  | .tptr cs, v, hv => by
    simp only [VR] at hv
    obtain ⟨b, o, h1, h2, h3⟩ := hv
    simpa [Am.rok] using CV.rok hD cs b o h3
  | .nils, v, hv => by simp [Am.rok]
  | .sl d i u off len sz lim, v, hv => by
    simp only [VR] at hv
    obtain ⟨b, n, cap, h1, _⟩ := hv
    simpa [Am.rok] using hD _ _ _ _ h1
  | .tree es lim, v, hv => by
    simp only [VR] at hv
    obtain ⟨a, cap, h1, h2, h3, h4, h5⟩ := hv
    by_cases he : es = []
    · subst he; simp [Am.rok, rokLL]
    · simpa [Am.rok] using CVV.rok hD es _ _ (h5 he).2.2
  | .fn f c, v, hv => by
    simp only [VR] at hv
    obtain ⟨vs, h1, h2⟩ := hv
    simpa [Am.rok] using LV.rok hD c vs h2
  | .nilf, v, hv => by simp [Am.rok]
  | .nili, v, hv => by simp [Am.rok]
  | .agg cs, v, hv => by
    simp only [VR] at hv
    obtain ⟨vs, h1, h2, h3⟩ := hv
    simpa [Am.rok] using LV.rok hD cs vs h3
  | .tup cs, v, hv => by
    simp only [VR] at hv
    obtain ⟨vs, h1, h2⟩ := hv
    simpa [Am.rok] using LV.rok hD cs vs h2
theorem CV.rok {ρ : Rho} {w : World} {p : Nat → Nat → Bool} (hD : ∀ d i u x, ρ d i u = some x → p d i = true) : ∀ (cs : List PV) (b o : Nat), CV ρ w cs b o → rokL p cs = true
  | [], _, _, _ => by simp [rokL]
  | c :: cs, b, o, hv => by
    simp only [CV] at hv
    obtain ⟨⟨v, _, _, h3⟩, h4⟩ := hv
    simp [rokL, VR.rok hD c v h3, CV.rok hD cs b (o + 1) h4]
theorem CVV.rok {ρ : Rho} {w : World} {p : Nat → Nat → Bool} (hD : ∀ d i u x, ρ d i u = some x → p d i = true) : ∀ (es : List (List PV)) (b o : Nat), CVV ρ w es b o → rokLL p es = true
  | [], _, _, _ => by simp [rokLL]
  | e :: es, b, o, hv => by
    simp only [CVV] at hv
    simp [rokLL, CV.rok hD e b o hv.1, CVV.rok hD es b _ hv.2]
theorem LV.rok {ρ : Rho} {w : World} {p : Nat → Nat → Bool} (hD : ∀ d i u x, ρ d i u = some x → p d i = true) : ∀ (cs : List PV) (vs : List Value), LV ρ w cs vs → rokL p cs = true
  | [], _, _ => by simp [rokL]
  | c :: cs, vs, hv => by
    simp only [LV] at hv
    obtain ⟨v, vs', _, h2, h3⟩ := hv
    simp [rokL, VR.rok hD c v h2, LV.rok hD cs vs' h3]
end

mutual
theorem dle_rok (D : Nat) : ∀ c : PV, dle D c = rok (fun d _ => decide (d ≤ D)) c
  | .bool b | .int k n | .str s | .nilp | .nils | .nilf | .nili => by simp [dle, rok]
  | .ref d i u off hi => by simp [dle, rok]
  | .sl d i u off len sz lim => by simp [dle, rok]
  | .tptr cs => by simp only [dle, rok]; exact dleL_rok D cs
  | .tree es lim => by simp only [dle, rok]; exact dleLL_rok D es
  | .fn f c => by simp only [dle, rok]; exact dleL_rok D c
  | .agg cs => by simp only [dle, rok]; exact dleL_rok D cs
  | .tup vs => by simp only [dle, rok]; exact dleL_rok D vs
theorem dleL_rok (D : Nat) : ∀ cs : List PV, dleL D cs = rokL (fun d _ => decide (d ≤ D)) cs
  | [] => by simp [dleL, rokL]
  | c :: cs => by simp [dleL, rokL, dle_rok D c, dleL_rok D cs]
theorem dleLL_rok (D : Nat) : ∀ es : List (List PV), dleLL D es = rokLL (fun d _ => decide (d ≤ D)) es
  | [] => by simp [dleLL, rokLL]
  | e :: es => by simp [dleLL, rokLL, dleL_rok D e, dleLL_rok D es]
end

mutual
theorem rok_mono {p q : Nat → Nat → Bool} (h : ∀ d i, p d i = true → q d i = true) : ∀ c : PV, rok p c = true → rok q c = true
  | .bool b, hp | .int k n, hp | .str s, hp | .nilp, hp | .nils, hp | .nilf, hp | .nili, hp => by simp [rok]
  | .ref d i u off hi, hp => by simp only [rok] at hp ⊢; exact h _ _ hp
  | .sl d i u off len sz lim, hp => by simp only [rok] at hp ⊢; exact h _ _ hp
  | .tptr cs, hp => by simp only [rok] at hp ⊢; exact rokL_mono h cs hp
  | .tree es lim, hp => by simp only [rok] at hp ⊢; exact rokLL_mono h es hp
  | .fn f c, hp => by simp only [rok] at hp ⊢; exact rokL_mono h c hp
  | .agg cs, hp => by simp only [rok] at hp ⊢; exact rokL_mono h cs hp
  | .tup vs, hp => by simp only [rok] at hp ⊢; exact rokL_mono h vs hp
theorem rokL_mono {p q : Nat → Nat → Bool} (h : ∀ d i, p d i = true → q d i = true) : ∀ cs : List PV, rokL p cs = true → rokL q cs = true
  | [], _ => by simp [rokL]
  | c :: cs, hp => by simp only [rokL, Bool.and_eq_true] at hp ⊢; exact ⟨rok_mono h c hp.1, rokL_mono h cs hp.2⟩
theorem rokLL_mono {p q : Nat → Nat → Bool} (h : ∀ d i, p d i = true → q d i = true) : ∀ es : List (List PV), rokLL p es = true → rokLL q es = true
  | [], _ => by simp [rokLL]
  | e :: es, hp => by simp only [rokLL, Bool.and_eq_true] at hp ⊢; exact ⟨rokL_mono h e hp.1, rokLL_mono h es hp.2⟩
end

theorem rokL_take {p : Nat → Nat → Bool} : ∀ (n : Nat) (cs : List PV), rokL p cs = true → rokL p (cs.take n) = true
  | 0, cs, _ => by simp [rokL]
  | n + 1, [], _ => by simp [rokL]
  | n + 1, c :: cs, h => by simp only [rokL, Bool.and_eq_true, List.take_succ_cons] at h ⊢; exact ⟨h.1, rokL_take n cs h.2⟩

/-- The objects of a frame are forgotten. -/
theorem HRel.pop {ρ : Rho} {f : List AObj} {fs : Heap} {w : World} (h : HRel ρ (f :: fs) w) : HRel (cutR ρ (fun d _ => decide (d < fs.length)) ρ.G) fs w := by
  refine ⟨?_, ?_, ?_, fun d i u b n e => h.res _ _ _ _ _ (cutR_some e).1, h.low, fun d i => ?_, ?_⟩
  rotate_left 3
  · show (decide (d < fs.length) = true ∧ ρ.ex d i) ↔ _
    rw [h.ex]
    simp only [getO]
    constructor
    · rintro ⟨h1, h2⟩
      rw [if_neg (by have := of_decide_eq_true h1; omega)] at h2
      exact h2
    · intro h2
      have hlt : d < fs.length := by
        cases ho : getO fs d i with
        | none => rw [ho] at h2; cases h2
        | some o => exact getO_lt ho
      exact ⟨decide_eq_true hlt, by rw [if_neg (by omega)]; exact h2⟩
  rotate_left 1
  · intro d i u b n e
    obtain ⟨e, hd⟩ := cutR_some e
    have hd := of_decide_eq_true hd
    obtain ⟨o, ho, h1, h2, h3, h4, h5, h6⟩ := h.obj _ _ _ _ _ e
    simp only [getO] at ho
    rw [if_neg (by omega)] at ho
    refine ⟨o, ho, h1, h2, h3, fun hlo => CV.chg (.cut _ _ _) _ _ _ ?_ (h4 hlo), h5, h6⟩
    rw [dleL_rok] at h5
    exact rokL_take _ _ (rokL_mono (fun d' i' hh => decide_eq_true (by have := of_decide_eq_true hh; omega)) _ h5)
  · intro d i u b n e
    exact h.block _ _ _ _ _ (cutR_some e).1
  · intro d i u x o e ho u' hu'
    obtain ⟨e, hd⟩ := cutR_some e
    have hd' := of_decide_eq_true hd
    obtain ⟨y, hy⟩ := h.cov _ _ _ _ o e (by simp only [getO]; rw [if_neg (by omega)]; exact ho) u' hu'
    exact ⟨y, cutR_of hy hd⟩
  · intro d i u b n d' i' u' n' e e'
    exact h.inj _ _ _ _ _ _ _ _ _ (cutR_some e).1 (cutR_some e').1

theorem HRel.push {ρ : Rho} {H : Heap} {w : World} (h : HRel ρ H w) : HRel ρ ([] :: H) w := by
  have hlt : ∀ d i o, getO H d i = some o → getO ([] :: H) d i = some o := by
    intro d i o ho
    simp only [getO]
    rw [if_neg (by have := getO_lt ho; omega)]
    exact ho
  refine ⟨?_, h.block, ?_, h.res, h.low, fun d i => ?_, h.inj⟩
  rotate_left 2
  · rw [h.ex]
    constructor
    · intro h2
      obtain ⟨o, ho⟩ := Option.isSome_iff_exists.1 h2
      rw [hlt _ _ _ ho]; rfl
    · intro h2
      simp only [getO] at h2
      split at h2
      · simp at h2
      · exact h2
  · intro d i u b n e
    obtain ⟨o, ho, rest⟩ := h.obj _ _ _ _ _ e
    exact ⟨o, hlt _ _ _ ho, rest⟩
  · intro d i u x o e ho u' hu'
    obtain ⟨b, n⟩ := x
    obtain ⟨o', ho', _⟩ := h.obj _ _ _ _ _ e
    have := hlt _ _ _ ho'
    rw [this] at ho; cases ho
    exact h.cov _ _ _ _ _ e ho' u' hu'

theorem mapO_flat {α β : Type} {f : α → Option β} : ∀ {es : List (List α)} {rs : List (List β)}, mapO (mapO f) es = some rs → mapO f es.flatten = some rs.flatten
  | [], rs, h => by simp [mapO] at h; subst h; simp [mapO]
  | e :: es, rs, h => by
    simp only [mapO, Option.bind_eq_some_iff, Option.map_eq_some_iff] at h
    obtain ⟨r, h1, rs', h2, rfl⟩ := h
    have h3 := mapO_flat h2
    simp only [List.flatten_cons]
    have : ∀ (a b : List α) (x y : List β), mapO f a = some x → mapO f b = some y → mapO f (a ++ b) = some (x ++ y) := by
      intro a
      induction a with
      | nil => intro b x y hx hy; simp [mapO] at hx; subst hx; simpa using hy
      | cons c a ih =>
        intro b x y hx hy
        simp only [mapO, Option.bind_eq_some_iff, Option.map_eq_some_iff] at hx
        obtain ⟨z, hz, zs, hzs, rfl⟩ := hx
        simp [mapO, hz, ih b zs y hzs hy]
    exact this _ _ _ _ h1 h3

theorem chunks_flat : ∀ (sz n : Nat) (l : List PV), n * sz ≤ l.length → (chunks sz n l).flatten = l.take (n * sz)
  | sz, 0, l, _ => by simp [chunks]
  | sz, n + 1, l, h => by
    simp only [chunks, List.flatten_cons]
    rw [Nat.add_mul] at h
    rw [chunks_flat sz n (l.drop sz) (by simp; omega), Nat.add_mul, Nat.one_mul, Nat.add_comm (n * sz) sz, List.take_add]
theorem chunks_len : ∀ (sz n : Nat) (l : List PV), n * sz ≤ l.length → ∀ e ∈ chunks sz n l, e.length = sz
  | sz, 0, l, _ => by simp [chunks]
  | sz, n + 1, l, h => by
    intro e he
    simp only [chunks, List.mem_cons] at he
    rw [Nat.add_mul] at h
    rcases he with rfl | he
    · simp; omega
    · exact chunks_len sz n _ (by simp; omega) e he
theorem chunks_length : ∀ (sz n : Nat) (l : List PV), (chunks sz n l).length = n
  | sz, 0, l => by simp [chunks]
  | sz, n + 1, l => by simp [chunks, chunks_length sz n]

/-- A value out of a frame that ends. -/
theorem reify_sound {ρ : Rho} {f : List AObj} {fs : Heap} {w : World} (hr : HRel ρ (f :: fs) w) : ∀ (k : Nat) (v v' : PV) (val : Value), reify (f :: fs) fs.length k v = some v' → VR ρ w v val → VR (cutR ρ (fun d _ => decide (d < fs.length)) ρ.G) w v' val := by
  intro k
  induction k with
  | zero => intro v v' val h; simp [reify] at h
  | succ k ih =>
    intro v v' val h hv
    have ihL : ∀ (cs cs' : List PV) (vs : List Value), mapO (reify (f :: fs) fs.length k) cs = some cs' → LV ρ w cs vs → LV (cutR ρ (fun d _ => decide (d < fs.length)) ρ.G) w cs' vs := by
      intro cs cs' vs hm hl
      refine LV_of_get _ _ (by rw [mapO_length hm]; exact LV_length _ _ hl) fun j c u hc hu => ?_
      obtain ⟨x, hx, hf⟩ := mapO_get hm j c hc
      obtain ⟨u', hu', hvr⟩ := LV_get _ _ hl j x hx
      rw [hu] at hu'; cases hu'
      exact ih _ _ _ hf hvr
    have ihC : ∀ (cs cs' : List PV) (b o : Nat), mapO (reify (f :: fs) fs.length k) cs = some cs' → CV ρ w cs b o → CV (cutR ρ (fun d _ => decide (d < fs.length)) ρ.G) w cs' b o := by
      intro cs cs' b o hm hc
      rw [CV_iff] at hc ⊢
      intro j c hj
      obtain ⟨x, hx, hf⟩ := mapO_get hm j c hj
      obtain ⟨u, h1, h2, h3⟩ := hc j x hx
      exact ⟨u, h1, h2, ih _ _ _ hf h3⟩
    have lens : ∀ (es es' : List (List PV)) (sz : Nat), mapO (mapO (reify (f :: fs) fs.length k)) es = some es' → (∀ e ∈ es, e.length = sz) → ∀ e ∈ es', e.length = sz := by
      intro es es' sz hm hl e he
      obtain ⟨j, hj⟩ := List.getElem?_of_mem he
      obtain ⟨x, hx, hf⟩ := mapO_get hm j e hj
      rw [mapO_length hf]; exact hl x (List.mem_of_getElem? hx)
    simp only [reify] at h
    split at h
    · -- ref
      split at h
      · rename_i hd; cases h; exact VR.chg (.cut _ _ _) _ _ (by simpa [rok] using hd) hv
      · cases h
    · -- a slice
      rename_i d i u off len sz lim
      split at h
      · rename_i hd; cases h; exact VR.chg (.cut _ _ _) _ _ (by simpa [rok] using hd) hv
      · rename_i hd
        simp only [Option.bind_eq_some_iff] at h
        obtain ⟨o, ho, h⟩ := h
        split at h
        case isFalse => cases h
        rename_i hc
        simp only [Option.map_eq_some_iff] at h
        obtain ⟨es', hm, rfl⟩ := h
        obtain ⟨hlo, huv, hsz, hfit⟩ := hc
        simp only [VR] at hv
        obtain ⟨b, n, cap, g1, rfl, g3, g4, g5, g6⟩ := hv
        obtain ⟨h5, h6⟩ := obj_cells hr ho g1 hlo g4
        have hfl := chunks_flat sz len (o.cells.drop off) (by simp; omega)
        have hlen : es'.length = len := by rw [mapO_length hm, chunks_length]
        refine VR_tree ⟨_, cap, by rw [hlen], by rw [hlen]; exact g3, fun e => by rw [hlen]; exact g5 e, ⟨sz, lens _ _ sz hm (chunks_len sz len _ (by simp; omega))⟩, fun _ => ⟨rfl, ⟨hr.lt g1, ?_, hr.res _ _ _ _ _ g1⟩, ?_⟩⟩
        · rintro ⟨d', i', u', n', e⟩
          obtain ⟨e, hd'⟩ := cutR_some e
          have := hr.inj _ _ _ _ _ _ _ _ _ g1 e
          have := of_decide_eq_true hd'
          omega
        · rw [CVV_flat]
          refine ihC _ _ _ _ (mapO_flat hm) ?_
          rw [hfl]; exact h5
    · -- a tree
      rename_i es lim
      simp only [Option.map_eq_some_iff] at h
      obtain ⟨es', hm, rfl⟩ := h
      simp only [VR] at hv
      obtain ⟨a, cap, rfl, g2, g3, ⟨sz, g4⟩, g5⟩ := hv
      have hlen : es'.length = es.length := mapO_length hm
      refine VR_tree ⟨a, cap, by rw [hlen], by rw [hlen]; exact g2, fun e => by rw [hlen]; exact g3 e, ⟨sz, lens _ _ sz hm g4⟩, fun hne => ?_⟩
      obtain ⟨g6, g7, g8⟩ := g5 (by rintro rfl; simp at hlen; exact hne hlen)
      refine ⟨g6, (Chg.cut _ _ _).im _ g7, ?_⟩
      rw [CVV_flat] at g8 ⊢
      exact ihC _ _ _ _ (mapO_flat hm) g8
    · -- agg
      simp only [Option.map_eq_some_iff] at h
      obtain ⟨cs', hm, rfl⟩ := h
      simp only [VR] at hv ⊢
      obtain ⟨vs, g1, g2, g3⟩ := hv
      exact ⟨vs, g1, g2, ihL _ _ _ hm g3⟩
    · simp only [Option.map_eq_some_iff] at h
      obtain ⟨cs', hm, rfl⟩ := h
      simp only [VR] at hv ⊢
      obtain ⟨vs, g1, g2⟩ := hv
      exact ⟨vs, g1, ihL _ _ _ hm g2⟩
    · simp only [Option.map_eq_some_iff] at h
      obtain ⟨cs', hm, rfl⟩ := h
      simp only [VR] at hv ⊢
      obtain ⟨vs, g1, g2⟩ := hv
      exact ⟨vs, g1, ihL _ _ _ hm g2⟩
    · cases h
    · cases h
      rename_i h1 h2 h3 h4 h5 h6 h7
      cases v <;> first
        | exact (h1 _ _ _ _ _ rfl).elim | exact (h2 _ _ _ _ _ _ _ rfl).elim | exact (h3 _ _ rfl).elim | exact (h4 _ rfl).elim | exact (h5 _ rfl).elim | exact (h6 _ _ rfl).elim | exact (h7 _ rfl).elim
        | (simpa only [VR] using hv)

end Go.Proofs.YtbcmiddffckgmaaDoor.Am
