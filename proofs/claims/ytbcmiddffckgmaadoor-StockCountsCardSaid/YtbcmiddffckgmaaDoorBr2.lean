/- Rows out of runs: what a stock reads as. -/
import Derived.Test.YtbcmiddffckgmaaDoorBr
import Derived.Test.YtbcmiddffckgmaaDoorS5
import Derived.Lib.SmallJoins
import Derived.Deep.Slices
set_option linter.unusedVariables false
set_option linter.unusedSimpArgs false
set_option linter.unnecessarySimpa false
namespace Go.Proofs.YtbcmiddffckgmaaDoor.Am
open Go Go.ChangeShapes Go.WideShapes Go.ChangeAt Go.RowKit
open Go.ChangeMaps (open_string shut_string)
instance : Inhabited Blk := ⟨⟨0, 0, 0, ByteArray.empty⟩⟩
/-- The numbers of a block are int64s, its holder a text. -/
def Blk.wf (b : Blk) : Prop := (Lit.int .i64 b.len).wf = true ∧ (Lit.int .i64 b.wear).wf = true ∧ (Lit.int .i64 b.uses).wf = true ∧ b.who.size ≤ maxL
theorem cvv_get {W : World} {b : Nat} : ∀ (es : List (List PV)) (o : Nat), (∀ e ∈ es, e.length = 4) → (∀ (i : Nat) e, es[i]? = some e → CV rho0 W e b (o + i * 4)) → CVV rho0 W es b o
  | [], _, _, _ => trivial
  | e :: es, o, h4, h => by
    refine ⟨by have := h 0 e rfl; simpa using this, cvv_get es (o + e.length) (fun x hx => h4 x (by simp [hx])) fun i e' hi => ?_⟩
    have := h (i + 1) e' (by simpa using hi)
    rw [h4 e (by simp)]
    rw [show o + 4 + i * 4 = o + (i + 1) * 4 by omega]
    exact this
theorem add_at {b o i : Nat} : (⟨b, o, none⟩ : Addr).add i = ⟨b, o + i, none⟩ := by
  unfold Addr.add
  by_cases h : i = 0 <;> simp [h]
theorem add_at' {b o i j : Nat} : ((⟨b, o, none⟩ : Addr).add i).add j = ⟨b, o + i + j, none⟩ := by rw [add_at, add_at]
section
variable {H : Type} {enc : TypeId × Value → H} {W : World}
theorem blk_of {n : Nat} {t t3 t9 : TypeId} {f0 f1 f2 f3 : Field} (hu : Tryd.prog.underlying t = some (.struct #[f0, f1, f2, f3])) (h3 : Tryd.prog.underlying t3 = some (.int .i64)) (h9 : Tryd.prog.underlying t9 = some .string)
    (hf : (f0.type, f1.type, f2.type, f3.type, f0.offset, f1.offset, f2.offset, f3.offset) = (t3, t3, t3, t9, 0, 1, 2, 3)) (hc : (Tryd.prog.cellsOf t, Tryd.prog.cellsOf t3, Tryd.prog.cellsOf t9) = (4, 1, 1)) {base : Nat} {sp : Nat → Bool} {held : Bool} {cs : List Value} {x : DataW H × List MemPlace}
    (h : DataW.trod enc Tryd.prog W base sp held n t cs = some x) : ∃ b : Blk, b.wf ∧ cs = [.int .i64 b.len, .int .i64 b.wear, .int .i64 b.uses, .string b.who] := by
  obtain ⟨y0, y1, y2, y3, m, hx, hl, h0, h1, h2, h4⟩ := Joins.trod_struct4 hu h
  simp only [Prod.mk.injEq] at hf hc
  obtain ⟨e0, e1, e2, e3, o0, o1, o2, o3⟩ := hf
  obtain ⟨c0, c1, c2⟩ := hc
  rw [c0] at hl
  rw [e0, o0, c1] at h0
  rw [e1, o1, c1] at h1
  rw [e2, o2, c1] at h2
  rw [e3, o3, c2] at h4
  match cs, hl with
  | [a, b, c, d], _ =>
    obtain ⟨n0, q0, _, w0⟩ := DataW.trod_int h3 h0
    obtain ⟨n1, q1, _, w1⟩ := DataW.trod_int h3 h1
    obtain ⟨n2, q2, _, w2⟩ := DataW.trod_int h3 h2
    obtain ⟨s, q3, _, w3⟩ := DataW.trod_string h9 h4
    simp at q0 q1 q2 q3
    subst q0 q1 q2 q3
    exact ⟨⟨n0, n1, n2, s⟩, ⟨w0, w1, w2, w3⟩, rfl⟩
theorem sv_blks {n : Nat} {ts t : TypeId} (hs : Tryd.prog.underlying ts = some (.slice t)) (hc : Tryd.prog.cellsOf t = 4) {base : Nat} {sp : Nat → Bool} {held : Bool} {v : Value} {x : DataW H × List MemPlace}
    (hb : ∀ m cs y, DataW.trod enc Tryd.prog W base sp held m t cs = some y → ∃ b : Blk, b.wf ∧ cs = [.int .i64 b.len, .int .i64 b.wear, .int .i64 b.uses, .string b.who])
    (h : DataW.trod enc Tryd.prog W base sp held n ts [v] = some x) : ∃ sv l, SV sv (blks l) ∧ VR rho0 W sv v ∧ (∀ b ∈ l, b.wf) ∧ v.oneCell' = true ∧ (x.1 = .nil ∧ l = [] ∨ ∃ el spare, x.1 = .slice el spare ∧ el.length = l.length) := by
  rcases Deep.open_slice hs h with ⟨h0, rfl⟩ | ⟨a, len, cap, m, n', D, Pl, h0, hbase, hl, hm, hmm, rfl, hx⟩
  · simp at h0; subst h0
    exact ⟨.nils, [], .inl ⟨rfl, rfl⟩, rfl, by simp, rfl, .inl ⟨rfl, rfl⟩⟩
  · simp at h0; subst h0
    have hlm : len ≤ m := by subst hmm; split <;> omega
    rw [hc] at hx
    obtain ⟨B, hB⟩ := Deep.choose_lt (α := Blk) (p := fun i b => b.wf ∧ ∀ k, k < 4 → W.cell? ((a.add (i * 4)).add k) = ([Value.int .i64 b.len, .int .i64 b.wear, .int .i64 b.uses, .string b.who] : List Value)[k]?) (fun i hi => by
      obtain ⟨cs', h1, h2⟩ := hx i hi
      obtain ⟨b, hwf, rfl⟩ := hb _ _ _ h2
      exact ⟨b, hwf, (World.cells?_some h1).2.2⟩)
    refine ⟨.tree (blks ((List.range len).map B)) false, (List.range len).map B, .inr ⟨false, rfl⟩, ?_, ?_, rfl, .inr ⟨_, _, rfl, by simp⟩⟩
    · have hlen : (blks ((List.range len).map B)).length = len := by simp [blks]
      refine ⟨a, cap, by rw [hlen], by rw [hlen]; exact hl, by simp, ⟨4, blks_four _⟩, fun hne => ?_⟩
      have hpos : 0 < len := by
        rcases Nat.eq_zero_or_pos len with e | e
        · subst e; exact absurd (by simp [blks]) hne
        · exact e
      have hc0 := (hB 0 (by omega)).2 0 (by omega)
      have hsp : a.spot = none := by simpa [Addr.add] using World.cell?_spot hc0
      obtain ⟨b, o, spot⟩ := a
      simp only at hsp
      subst hsp
      refine ⟨rfl, im0 (cell_lt (o := o) (by simpa [Addr.add] using hc0)), cvv_get _ _ (blks_four _) fun i e he => ?_⟩
      have hi : i < len := by
        have := (List.getElem?_eq_some_iff.1 he).1
        rw [hlen] at this; exact this
      unfold blks at he
      rw [List.getElem?_map, List.getElem?_map, List.getElem?_range hi] at he
      simp at he
      subst he
      have hk := (hB i (by omega)).2
      refine ⟨⟨_, ?_, rfl, rfl⟩, ⟨_, ?_, rfl, rfl⟩, ⟨_, ?_, rfl, rfl⟩, ⟨_, ?_, rfl, rfl⟩, trivial⟩
      · have := hk 0 (by omega); rw [add_at'] at this; simpa using this
      · have := hk 1 (by omega); rw [add_at'] at this; simpa using this
      · have := hk 2 (by omega); rw [add_at'] at this; simpa using this
      · have := hk 3 (by omega); rw [add_at'] at this; simpa using this
    · intro b hb
      obtain ⟨i, hi, rfl⟩ := List.mem_map.1 hb
      exact (hB i (by have := List.mem_range.1 hi; omega)).1

set_option maxRecDepth 100000 in
theorem stk_of {r : Reach} {b0 base : Nat} {sp : Nat → Bool} {held : Bool} {v : Value} {d : DataW H} {p : List MemPlace} (hv : Value.okWide Tryd.prog W r b0 24 v) (h : DataW.Trod enc Tryd.prog W base sp held 24 v d p)
    (hz : (d.weights Tryd.prog 24).all (· ≤ reachBytes) = true) : ∃ most sv l, SV sv (blks l) ∧ VR rho0 W (.agg [.int .i64 most, sv]) v ∧ (Lit.int .i64 most).wf = true ∧ (∀ b ∈ l, b.wf) ∧ l.length * 40 ≤ 140737488355328 := by
  obtain ⟨v0, v1, y0, y1, n, rfl, rfl, rfl, h0, h1⟩ := Joins.open_agg2 Tryd.underlying24 (by kernel_rfl) (by kernel_rfl) hv h
  obtain ⟨most, q0, _, w0⟩ := DataW.trod_int Tryd.underlying3 h0
  simp at q0; subst q0
  obtain ⟨sv, l, hs, hvr, hwf, hone, hd⟩ := sv_blks Tryd.underlying22 (by kernel_rfl) (fun m cs y hh => blk_of Tryd.underlying66 Tryd.underlying3 Tryd.underlying9 rfl (by kernel_rfl) hh) h1
  refine ⟨most, sv, l, hs, ⟨[.int .i64 most, v1], rfl, by simp [hone]; rfl, _, _, rfl, rfl, _, _, rfl, hvr, rfl⟩, w0, hwf, ?_⟩
  rcases hd with ⟨_, rfl⟩ | ⟨el, spare, he, hel⟩
  · simp
  · have hb : Tryd.prog.bytesOf 66 = 40 := by kernel_rfl
    have := List.all_eq_true.1 hz ((el.length + spare.length) * Tryd.prog.bytesOf 66) (by
      simp only [DataW.weights, Tryd.underlying24, List.map_cons, List.map_nil, DataW.weightsEach, he, Tryd.underlying22]
      simp)
    rw [hb, hel] at this
    have h3 : (l.length + spare.length) * 40 ≤ 140737488351232 := of_decide_eq_true this
    have h2 : l.length * 40 ≤ (l.length + spare.length) * 40 := Nat.mul_le_mul_right 40 (by omega)
    omega
end
end Go.Proofs.YtbcmiddffckgmaaDoor.Am
