/- Rows out of runs: what events read as. -/
import Derived.Test.YtbcmiddffckgmaaDoorBr2
import Derived.Test.YtbcmiddffckgmaaDoorJ3
set_option linter.unusedVariables false
set_option linter.unusedSimpArgs false
set_option linter.unnecessarySimpa false
namespace Go.Proofs.YtbcmiddffckgmaaDoor.Am
open Go Go.ChangeShapes Go.WideShapes Go.ChangeAt Go.RowKit
open Go.ChangeMaps (open_string shut_string)
instance : Inhabited Ev := ⟨⟨0, ByteArray.empty, 0, 0⟩⟩
/-- The numbers of an event are int64s, its name a text. -/
def Ev.wf (b : Ev) : Prop := (Lit.int .i64 b.kind).wf = true ∧ b.who.size ≤ maxL ∧ (Lit.int .i64 b.len).wf = true ∧ (Lit.int .i64 b.wear).wf = true
section
variable {H : Type} {enc : TypeId × Value → H} {W : World}
theorem ev_of {n : Nat} {t t3 t9 : TypeId} {f0 f1 f2 f3 : Field} (hu : Tryd.prog.underlying t = some (.struct #[f0, f1, f2, f3])) (h3 : Tryd.prog.underlying t3 = some (.int .i64)) (h9 : Tryd.prog.underlying t9 = some .string)
    (hf : (f0.type, f1.type, f2.type, f3.type, f0.offset, f1.offset, f2.offset, f3.offset) = (t3, t9, t3, t3, 0, 1, 2, 3)) (hc : (Tryd.prog.cellsOf t, Tryd.prog.cellsOf t3, Tryd.prog.cellsOf t9) = (4, 1, 1)) {base : Nat} {sp : Nat → Bool} {held : Bool} {cs : List Value} {x : DataW H × List MemPlace}
    (h : DataW.trod enc Tryd.prog W base sp held n t cs = some x) : ∃ b : Ev, b.wf ∧ cs = [.int .i64 b.kind, .string b.who, .int .i64 b.len, .int .i64 b.wear] := by
  obtain ⟨y0, y1, y2, y3, m, hx, hl, h0, h1, h2, h4⟩ := Joins.trod_struct4 hu h
  simp only [Prod.mk.injEq] at hf hc
  obtain ⟨e0, e1, e2, e3, o0, o1, o2, o3⟩ := hf
  obtain ⟨c0, c1, c2⟩ := hc
  rw [c0] at hl
  rw [e0, o0, c1] at h0
  rw [e1, o1, c2] at h1
  rw [e2, o2, c1] at h2
  rw [e3, o3, c1] at h4
  match cs, hl with
  | [a, b, c, d], _ =>
    obtain ⟨n0, q0, _, w0⟩ := DataW.trod_int h3 h0
    obtain ⟨s, q1, _, w1⟩ := DataW.trod_string h9 h1
    obtain ⟨n2, q2, _, w2⟩ := DataW.trod_int h3 h2
    obtain ⟨n3, q3, _, w3⟩ := DataW.trod_int h3 h4
    simp at q0 q1 q2 q3
    subst q0 q1 q2 q3
    exact ⟨⟨n0, s, n2, n3⟩, ⟨w0, w1, w2, w3⟩, rfl⟩
theorem sv_evs {n : Nat} {ts t : TypeId} (hs : Tryd.prog.underlying ts = some (.slice t)) (hc : Tryd.prog.cellsOf t = 4) {base : Nat} {sp : Nat → Bool} {held : Bool} {v : Value} {x : DataW H × List MemPlace}
    (hb : ∀ m cs y, DataW.trod enc Tryd.prog W base sp held m t cs = some y → ∃ b : Ev, b.wf ∧ cs = [.int .i64 b.kind, .string b.who, .int .i64 b.len, .int .i64 b.wear])
    (h : DataW.trod enc Tryd.prog W base sp held n ts [v] = some x) : ∃ sv l, SV sv (evs l) ∧ VR rho0 W sv v ∧ (∀ b ∈ l, b.wf) ∧ v.oneCell' = true ∧ (x.1 = .nil ∧ l = [] ∨ ∃ el spare, x.1 = .slice el spare ∧ el.length = l.length) := by
  rcases Deep.open_slice hs h with ⟨h0, rfl⟩ | ⟨a, len, cap, m, n', D, Pl, h0, hbase, hl, hm, hmm, rfl, hx⟩
  · simp at h0; subst h0
    exact ⟨.nils, [], .inl ⟨rfl, rfl⟩, rfl, by simp, rfl, .inl ⟨rfl, rfl⟩⟩
  · simp at h0; subst h0
    have hlm : len ≤ m := by subst hmm; split <;> omega
    rw [hc] at hx
    obtain ⟨B, hB⟩ := Deep.choose_lt (α := Ev) (p := fun i b => b.wf ∧ ∀ k, k < 4 → W.cell? ((a.add (i * 4)).add k) = ([Value.int .i64 b.kind, .string b.who, .int .i64 b.len, .int .i64 b.wear] : List Value)[k]?) (fun i hi => by
      obtain ⟨cs', h1, h2⟩ := hx i hi
      obtain ⟨b, hwf, rfl⟩ := hb _ _ _ h2
      exact ⟨b, hwf, (World.cells?_some h1).2.2⟩)
    refine ⟨.tree (evs ((List.range len).map B)) false, (List.range len).map B, .inr ⟨false, rfl⟩, ?_, ?_, rfl, .inr ⟨_, _, rfl, by simp⟩⟩
    · have hlen : (evs ((List.range len).map B)).length = len := by simp [evs]
      refine ⟨a, cap, by rw [hlen], by rw [hlen]; exact hl, by simp, ⟨4, evs_four _⟩, fun hne => ?_⟩
      have hpos : 0 < len := by
        rcases Nat.eq_zero_or_pos len with e | e
        · subst e; exact absurd (by simp [evs]) hne
        · exact e
      have hc0 := (hB 0 (by omega)).2 0 (by omega)
      have hsp : a.spot = none := by simpa [Addr.add] using World.cell?_spot hc0
      obtain ⟨b, o, spot⟩ := a
      simp only at hsp
      subst hsp
      refine ⟨rfl, im0 (cell_lt (o := o) (by simpa [Addr.add] using hc0)), cvv_get _ _ (evs_four _) fun i e he => ?_⟩
      have hi : i < len := by
        have := (List.getElem?_eq_some_iff.1 he).1
        rw [hlen] at this; exact this
      unfold evs at he
      rw [List.getElem?_map, List.getElem?_map, List.getElem?_range hi] at he
      simp at he
      subst he
      have hk := (hB i (by omega)).2
      refine ⟨⟨_, ?_, rfl, rfl⟩, ⟨_, ?_, rfl, rfl⟩, ⟨_, ?_, rfl, rfl⟩, ⟨_, ?_, rfl, rfl⟩, trivial⟩
      · have := hk 0 (by omega); rw [add_at'] at this; simpa using this
      · have := hk 1 (by omega); rw [add_at'] at this; simpa using this
      · have := hk 2 (by omega); rw [add_at'] at this; simpa using this
      · have := hk 3 (by omega); rw [add_at'] at this; simpa using this
    · intro b hb
      obtain ⟨i, hi, rfl⟩ := List.mem_map.1 hb
      exact (hB i (by have := List.mem_range.1 hi; omega)).1


set_option maxRecDepth 100000 in
theorem evs_of {r : Reach} {b0 base : Nat} {sp : Nat → Bool} {held : Bool} {v : Value} {d : DataW H} {p : List MemPlace} (hv : Value.okWide Tryd.prog W r b0 69 v) (h : DataW.Trod enc Tryd.prog W base sp held 69 v d p)
    (hz : (d.weights Tryd.prog 69).all (· ≤ reachBytes) = true) : ∃ sv l, SV sv (evs l) ∧ VR rho0 W sv v ∧ (∀ b ∈ l, b.wf) ∧ l.length * 40 ≤ 140737488355328 := by
  obtain ⟨a1, len1, cap1, rfl⟩ := okWide_slice Tryd.underlying69 hv
  obtain ⟨fuel, hf⟩ := h
  simp only [Value.cells] at hf
  obtain ⟨sv, l, hs, hvr, hwf, hone, hd⟩ := sv_evs Tryd.underlying69 (by kernel_rfl) (fun m cs y hh => ev_of Tryd.underlying106 Tryd.underlying3 Tryd.underlying9 rfl (by kernel_rfl) hh) hf
  refine ⟨sv, l, hs, hvr, hwf, ?_⟩
  rcases hd with ⟨_, rfl⟩ | ⟨el, spare, he, hel⟩
  · simp
  · have hb : Tryd.prog.bytesOf 106 = 40 := by kernel_rfl
    simp only [] at he
    subst he
    have := List.all_eq_true.1 hz ((el.length + spare.length) * Tryd.prog.bytesOf 106) (by
      simp only [DataW.weights, Tryd.underlying69]
      simp)
    rw [hb, hel] at this
    have h3 : (l.length + spare.length) * 40 ≤ 140737488351232 := of_decide_eq_true this
    have h2 : l.length * 40 ≤ (l.length + spare.length) * 40 := Nat.mul_le_mul_right 40 (by omega)
    omega
end
end Go.Proofs.YtbcmiddffckgmaaDoor.Am
