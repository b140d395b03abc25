/- What is not written stays. -/
import Derived.Test.YtbcmiddffckgmaaDoorAm11
set_option linter.unusedVariables false
set_option linter.unusedSimpArgs false
set_option linter.unnecessarySimpa false
namespace Go.Proofs.YtbcmiddffckgmaaDoor.Am
open Go

/-- What a step does to the heap. -/
def Hop (H H' : Heap) (wr : Wr) : Prop := H' = H ∨ (∃ cs, H' = newO H cs) ∨ ∃ d i o', H' = setO H d i o' ∧ (d, i) ∈ wr

theorem storeC_hop {H H' : Heap} {d i u off hi : Nat} {cs : List PV} {wr : Wr} (h : storeC H d i u off hi cs = some (H', wr)) : Hop H H' wr := by
  unfold storeC at h
  simp only [Option.bind_eq_some_iff] at h
  obtain ⟨o, ho, h⟩ := h
  split at h
  · cases h; exact .inr (.inr ⟨d, i, _, rfl, by simp⟩)
  · cases h

theorem appendP_hop {P : Program} {H H' : Heap} {t t2 : TypeId} {s x v : PV} {wr : Wr} (h : appendP P H t t2 s x = some (v, H', wr)) : Hop H H' wr := by
  unfold appendP at h
  split at h
  case h_2 => cases h
  simp only [Option.bind_eq_some_iff] at h
  obtain ⟨sz, hsz, by_, hby, z, hz, h⟩ := h
  split at h
  · cases h
  simp only [Option.bind_eq_some_iff] at h
  obtain ⟨⟨n, new⟩, hsrc, h⟩ := h
  simp only at h
  split at h
  · split at h
    · cases h; exact .inl rfl
    · split at h
      · cases h; exact .inr (.inl ⟨_, rfl⟩)
      · cases h
  · split at h
    · cases h; exact .inl rfl
    · split at h
      · cases h; exact .inr (.inl ⟨_, rfl⟩)
      · cases h
  · split at h
    · cases h
    · split at h
      · cases h; exact .inl rfl
      · simp only [Option.bind_eq_some_iff] at h
        obtain ⟨o, ho, h⟩ := h
        split at h
        · split at h
          · cases h; exact .inr (.inl ⟨_, rfl⟩)
          · cases h
        · split at h
          · split at h
            · cases h; exact .inr (.inr ⟨_, _, _, rfl, by simp⟩)
            · cases h
          · split at h
            · simp only [Option.map_eq_some_iff] at h
              obtain ⟨⟨H2, wr2⟩, hst, h⟩ := h
              cases h; exact storeC_hop hst
            · cases h
  · cases h

theorem opP_hop {P : Program} {ts : List PV} {H H' : Heap} {op : Op} {v : PV} {wr : Wr} (h : opP P ts H op = some (v, H', wr)) : Hop H H' wr := by
  unfold opP at h
  split at h
  case h_7 =>
    simp only [Option.bind_eq_some_iff] at h
    obtain ⟨ps, hps, h⟩ := h
    split at h
    case h_2 => cases h
    simp only [Option.bind_eq_some_iff] at h
    obtain ⟨sz, hsz, z, hz, h⟩ := h
    split at h
    case isFalse => cases h
    simp only [Option.map_eq_some_iff, Prod.mk.injEq] at h
    obtain ⟨cells, hf, _, rfl, _⟩ := h
    exact .inr (.inl ⟨_, rfl⟩)
  case h_9 =>
    simp only [Option.bind_eq_some_iff, Option.map_eq_some_iff] at h
    obtain ⟨a, ha, b, hb, ⟨H2, w2⟩, hst, h⟩ := h
    cases h
    unfold storeP at hst
    split at hst
    · split at hst
      · exact storeC_hop hst
      · cases hst
    · cases hst
  case h_22 =>
    simp only [Option.bind_eq_some_iff] at h
    obtain ⟨as, has, h⟩ := h
    split at h
    · simp only [Option.bind_eq_some_iff, Option.map_eq_some_iff, Prod.mk.injEq] at h
      obtain ⟨t, ht, v', hv, rfl, rfl, rfl⟩ := h; exact .inl rfl
    · simp only [Option.bind_eq_some_iff] at h
      obtain ⟨t, ht, t2, ht2, h⟩ := h
      exact appendP_hop h
    · simp only [Option.bind_eq_some_iff] at h
      obtain ⟨t, ht, h⟩ := h
      unfold copyP at h
      split at h
      case h_2 => cases h
      simp only [Option.bind_eq_some_iff] at h
      obtain ⟨sz, hsz, h⟩ := h
      split at h
      · cases h
      simp only [Option.bind_eq_some_iff] at h
      obtain ⟨⟨n, cells⟩, hsrc, h⟩ := h
      simp only at h
      split at h
      · cases h; exact .inl rfl
      · split at h
        · cases h
        · split at h
          · cases h; exact .inl rfl
          · simp only [Option.map_eq_some_iff] at h
            obtain ⟨⟨H2, w2⟩, hst, h⟩ := h
            cases h; exact storeC_hop hst
      · cases h
    · simp only [Option.map_eq_some_iff, Prod.mk.injEq] at h
      obtain ⟨v', hv, rfl, rfl, rfl⟩ := h; exact .inl rfl
    · simp only [Option.map_eq_some_iff, Prod.mk.injEq] at h
      obtain ⟨v', hv, rfl, rfl, rfl⟩ := h; exact .inl rfl
    · cases h
  case h_4 =>
    simp only [Option.bind_eq_some_iff] at h
    obtain ⟨z, hz, h⟩ := h
    split at h
    · cases h
    · cases h; exact .inr (.inl ⟨_, rfl⟩)
  case h_5 =>
    simp only [Option.bind_eq_some_iff] at h
    obtain ⟨z, hz, h⟩ := h
    split at h
    · cases h
    · cases h; exact .inr (.inl ⟨_, rfl⟩)
  case h_6 =>
    simp only [Option.bind_eq_some_iff, Option.map_eq_some_iff, Prod.mk.injEq] at h
    obtain ⟨ps, hps, v', hv, rfl, rfl, rfl⟩ := h; exact .inl rfl
  case h_14 =>
    split at h
    · simp only [Option.map_eq_some_iff, Prod.mk.injEq] at h
      obtain ⟨v', hv, rfl, rfl, rfl⟩ := h; exact .inl rfl
    · cases h
  case h_15 =>
    simp only [Option.map_eq_some_iff, Option.bind_eq_some_iff] at h
    obtain ⟨lv, hlv, cv, hcv, ⟨v', H2⟩, hm, h⟩ := h
    cases h
    unfold makeSliceP at hm
    split at hm
    case h_2 => cases hm
    simp only [Option.bind_eq_some_iff] at hm
    obtain ⟨sz, hsz, by_, hby, z, hz, hm⟩ := hm
    split at hm
    · split at hm
      · cases hm; exact .inr (.inl ⟨_, rfl⟩)
      · cases hm
    · cases hm
  case h_16 =>
    split at h
    · cases h
    · simp only [Option.map_eq_some_iff, Prod.mk.injEq] at h
      obtain ⟨v', hv, rfl, rfl, rfl⟩ := h; exact .inl rfl
  case h_23 => cases h
  all_goals
    simp only [Option.map_eq_some_iff, Prod.mk.injEq] at h
    obtain ⟨v', hv, rfl, rfl, rfl⟩ := h
    exact .inl rfl

theorem getO_newO {H : Heap} {cs : List PV} {d i : Nat} {o : AObj} (h : getO H d i = some o) : getO (newO H cs) d i = some o := by
  cases H with
  | nil => simp [getO] at h
  | cons f fs =>
    rw [newO, getO_pushO, if_neg]
    · exact h
    · rintro ⟨rfl, rfl⟩; rw [getO_new] at h; cases h

theorem Hop.keep {H H' : Heap} {wr : Wr} (h : Hop H H' wr) {d i : Nat} {o : AObj} (ho : getO H d i = some o) (hn : (d, i) ∉ wr) : getO H' d i = some o := by
  rcases h with rfl | ⟨cs, rfl⟩ | ⟨d', i', o', rfl, hw⟩
  · exact ho
  · exact getO_newO ho
  · rw [getO_setO_ne]
    · exact ho
    · rintro ⟨rfl, rfl⟩; exact hn hw

structure Keep (C : Cfg) (k : Nat) : Prop where
  call : ∀ f args H v H' wr, Am.call C k f args H = some (v, H', wr) → ∀ d i o, getO H d i = some o → (d, i) ∉ wr → getO H' d i = some o
  exec : ∀ m c st e st', Am.exec C k m c st = some (e, st') → ∀ d i o, getO st.H d i = some o → outer (curD st.H) m (d, i) = true → (d, i) ∉ st'.wr → getO st'.H d i = some o
  run : ∀ m h ops todo st st', runOps C k m h ops todo st = some st' → ∀ d i o, getO st.H d i = some o → outer (curD st.H) m (d, i) = true → (d, i) ∉ st'.wr → getO st'.H d i = some o

theorem keeps (C : Cfg) : ∀ k, Keep C k
  | 0 => ⟨fun f args H v H' wr h => by simp [call] at h, fun m c st e st' h => by simp [exec] at h, fun m h ops todo st st' h' => by simp [runOps] at h'⟩
  | k + 1 => by
    have ih := keeps C k
    have fc := facts C k
    refine ⟨?_, ?_, ?_⟩
    · intro f args H v H' wr h d i o ho hn
      simp only [call] at h
      split at h
      · simp only [Option.map_eq_some_iff, Prod.mk.injEq] at h
        obtain ⟨_, _, _, rfl, _⟩ := h; exact ho
      · simp only [Option.bind_eq_some_iff] at h
        obtain ⟨fn, hfn, c, hc, h⟩ := h
        split at h
        · cases h
        split at h
        · simp only [Option.bind_eq_some_iff] at h
          obtain ⟨⟨e, st⟩, hx, h⟩ := h
          have hh := ih.exec _ _ _ _ _ hx d i o ho
          have hout : outer (curD H) (curN H) (d, i) = true := by
            have hlt := getO_lt ho
            cases H with
            | nil => simp at hlt
            | cons f0 fs =>
              simp only [getO] at ho
              simp only [outer, curD, curN, List.length_cons, Nat.add_sub_cancel, Bool.or_eq_true, decide_eq_true_eq, Bool.and_eq_true, beq_iff_eq]
              split at ho
              · rename_i hd
                refine .inr ⟨hd, ?_⟩
                rcases Nat.lt_or_ge i f0.length with h | h
                · exact decide_eq_true h
                · rw [List.getElem?_eq_none h] at ho; cases ho
              · simp at hlt; exact .inl (by omega)
          try simp only at h
          split at h
          · cases h
          · simp only [Option.map_eq_some_iff, Prod.mk.injEq] at h
            obtain ⟨_, _, _, rfl, rfl⟩ := h
            exact hh hout hn
        · simp only [Option.bind_eq_some_iff] at h
          obtain ⟨⟨e, st⟩, hx, h⟩ := h
          have hlt := getO_lt ho
          have hlen := (fc.exec _ _ _ _ _ hx).1
          have ho' : getO ([] :: H) d i = some o := by simp only [getO]; rw [if_neg (by omega)]; exact ho
          have hh := ih.exec _ _ _ _ _ hx d i o ho'
          have hout : outer (curD ([] :: H)) 0 (d, i) = true := by
            simp only [outer, curD, List.length_cons, Nat.add_sub_cancel, Bool.or_eq_true, decide_eq_true_eq]
            exact .inl hlt
          try simp only at h
          split at h
          · cases h
          · simp only [Option.bind_eq_some_iff, Option.map_eq_some_iff, Prod.mk.injEq] at h
            obtain ⟨_, _, _, _, _, rfl, rfl⟩ := h
            have := hh hout hn
            cases hH : st.H with
            | nil => rw [hH] at this; simp [getO] at this
            | cons f1 fs1 =>
              rw [hH] at this hlen
              simp at hlen
              simp only [getO] at this
              rw [if_neg (by omega)] at this
              exact this
    · intro m c st e st' h d i o ho hout hn
      rw [exec.eq_def] at h
      simp only at h
      split at h
      · cases h; exact ho
      · cases h; exact ho
      · simp only [Option.bind_eq_some_iff] at h
        obtain ⟨⟨e1, st1⟩, h1, h⟩ := h
        have f1 := fc.exec _ _ _ _ _ h1
        have g1 := ih.exec _ _ _ _ _ h1 d i o ho hout
        try simp only at h
        split at h
        · have f2 := fc.exec _ _ _ _ _ h
          exact ih.exec _ _ _ _ _ h d i o (g1 fun hm => hn (f2.2 _ hm)) (by rw [curD_eq f1.1]; exact hout) hn
        · cases h; exact g1 hn
      · split at h
        · exact ih.exec _ _ _ _ _ h d i o ho hout hn
        · exact ih.exec _ _ _ _ _ h d i o ho hout hn
        · cases h
      · simp only [Option.map_eq_some_iff] at h
        obtain ⟨⟨e1, st1⟩, h1, h⟩ := h
        have g1 := ih.exec _ _ _ _ _ h1 d i o ho hout
        try simp only at h
        split at h <;> (cases h; exact g1 hn)
      · simp only [Option.bind_eq_some_iff] at h
        obtain ⟨⟨e1, st1⟩, h1, h⟩ := h
        have f1 := fc.exec _ _ _ _ _ h1
        have g1 := ih.exec _ _ _ _ _ h1 d i o ho hout
        try simp only at h
        split at h
        · have f2 := fc.exec _ _ _ _ _ h
          exact ih.exec _ _ _ _ _ h d i o (g1 fun hm => hn (f2.2 _ hm)) (by rw [curD_eq f1.1]; exact hout) hn
        · cases h; exact g1 hn
      · cases h; exact ho
      · cases h; exact ho
      · split at h
        · cases h
        · simp only [Option.map_eq_some_iff, Prod.mk.injEq] at h
          obtain ⟨st1, h1, _, rfl⟩ := h
          exact ih.run _ _ _ _ _ _ h1 d i o ho hout hn
      · cases h
    · intro m hh ops todo st st' h d i o ho hout hn
      cases todo with
      | nil => simp only [runOps, Option.some.injEq] at h; subst h; exact ho
      | cons j rest =>
        simp only [runOps] at h
        split at h
        · cases h
        rename_i op hop
        split at h
        · simp only [Option.bind_eq_some_iff] at h
          obtain ⟨⟨v, H', dd⟩, hs, h⟩ := h
          have hl : H'.length = st.H.length := by
            split at hs
            · exact fc.call _ _ _ _ _ _ hs
            · exact opP_length hs
          simp only at h
          split at h
          · cases h
          have f2 := fc.run _ _ _ _ _ _ h
          have hn2 : (d, i) ∉ dd := fun hm => hn (f2.2 _ (mem_addWs_new hm hout))
          have ho2 : getO H' d i = some o := by
            split at hs
            · exact ih.call _ _ _ _ _ _ hs d i o ho hn2
            · exact (opP_hop hs).keep ho hn2
          exact ih.run _ _ _ _ _ _ h d i o ho2 (by simp only [curD_eq hl]; exact hout) hn
        · exact ih.run _ _ _ _ _ _ h d i o ho hout hn

end Go.Proofs.YtbcmiddffckgmaaDoor.Am
