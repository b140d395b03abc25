/- Rows out of runs of the abstract machine: what is read as data stands for values of the abstract machine. -/
import Derived.Test.YtbcmiddffckgmaaDoorRows
import Derived.Test.YtbcmiddffckgmaaDoorS2
import Derived.Test.YtbcmiddffckgmaaDoorAm16
import Derived.WalkKit
import Derived.ProofKit
import Derived.OpenShut
import Derived.ShutString
import Derived.ChangeOld
import Derived.Below
import Derived.SizedLaws
import Derived.LaidMore
import Derived.Lay
import Derived.Stop.Joined
import Derived.Carry
set_option linter.unusedVariables false
set_option linter.unusedSimpArgs false
set_option linter.unnecessarySimpa false
namespace Go.Proofs.YtbcmiddffckgmaaDoor.Am
open Go Go.ChangeShapes Go.WideShapes Go.ChangeAt Go.RowKit
open Go.ChangeMaps (open_string shut_string)

theorem orcOk : OrcOk C := fun f g h => by cases h
theorem mixed : C.P.follows .mixedOrders = true := by kernel_rfl
theorem own_ : ownKnob Tryd.prog.godebug = none := by kernel_rfl
theorem laidOut : laidOutB Tryd.prog = true := by kernel_rfl
def laidL : List (String × DataW Unit) := [("unicode/utf8.acceptRanges", Rows.laid_unicode_utf8_acceptRanges), ("unicode/utf8.first", Rows.laid_unicode_utf8_first)]
set_option maxRecDepth 100000 in
theorem shaped (os : Os) : (World.laidAll Tryd.prog os laidL).Shaped Tryd.prog := World.shaped_of_ZipB (by kernel_rfl) (by kernel_rfl)
set_option maxRecDepth 100000 in
theorem laid_met (os : Os) (args : Array Value) : laidMetH Tryd.prog laidL ((World.laidAll Tryd.prog os laidL).forCall (fun _ _ => 0) ⟨#[], args, []⟩).memory := by
  rw [MakeChecks.laidMetH_plain _ _ _ (by kernel_rfl)]; exact laidMet_laidAll _ (by kernel_rfl) (by kernel_rfl)

theorem im0 {W : World} {b : Nat} (h : b < W.heap.size) : IM rho0 W b := ⟨h, fun ⟨_, _, _, _, e⟩ => (rho0_none _ _ _ _) e, fun h => h⟩
theorem cell_lt {W : World} {b o : Nat} {v : Value} (h : W.cell? ⟨b, o, none⟩ = some v) : b < W.heap.size := by
  rcases Nat.lt_or_ge b W.heap.size with h1 | h1
  · exact h1
  · unfold World.cell? at h
    rw [Array.getElem?_eq_none h1] at h
    simp at h
theorem cvv_ints {W : World} {b : Nat} {k : IntKind} : ∀ (l : List Int) (o : Nat), (∀ i, i < l.length → W.cell? ⟨b, o + i, none⟩ = some (.int k (l.getD i 0))) → CVV rho0 W (l.map fun n => [PV.int k n]) b o
  | [], _, _ => trivial
  | n :: l, o, h => by
    refine ⟨⟨⟨.int k n, ?_, rfl, rfl⟩, trivial⟩, cvv_ints l (o + 1) fun i hi => ?_⟩
    · have := h 0 (by simp)
      simpa using this
    · have := h (i + 1) (by simpa using hi)
      rw [Nat.add_assoc, Nat.add_comm 1 i]
      simpa using this
theorem sv_ints {W : World} {a : Option Addr} {len cap : Nat} {zs : List Int} (h : (a = none ∧ len = 0 ∧ cap = 0 ∧ zs = []) ∨
      ∃ x, a = some x ∧ len ≤ cap ∧ cap ≤ maxLen ∧ zs.length = cap ∧ (∀ i, i < zs.length → W.cell? (x.add i) = some (.int .i64 (zs.getD i 0))) ∧ ∀ n ∈ zs, (Lit.int .i64 n).wf = true) :
    ∃ sv l, SV sv (ints l) ∧ VR rho0 W sv (.slice a len cap) ∧ l.length = len ∧ len ≤ maxLen ∧ ∀ n ∈ l, (Lit.int .i64 n).wf = true := by
  rcases h with ⟨rfl, rfl, rfl, rfl⟩ | ⟨x, rfl, h1, h2, h3, h4, h5⟩
  · exact ⟨.nils, [], .inl ⟨rfl, rfl⟩, rfl, rfl, by decide, by simp⟩
  · refine ⟨.tree (ints (zs.take len)) false, zs.take len, .inr ⟨false, rfl⟩, ?_, by simp; omega, by omega, fun n hn => h5 n (List.mem_of_mem_take hn)⟩
    have hl : (ints (zs.take len)).length = len := by simp [ints]; omega
    refine ⟨x, cap, by rw [hl], by rw [hl]; exact h1, by simp, ⟨1, by intro e he; unfold ints at he; obtain ⟨n, _, rfl⟩ := List.mem_map.1 he; rfl⟩, fun hne => ?_⟩
    have hpos : 0 < len := by
      rcases Nat.eq_zero_or_pos len with e | e
      · subst e; exact absurd (by simp [ints]) hne
      · exact e
    have hc0 := h4 0 (by omega)
    have hsp : x.spot = none := by simpa [Addr.add] using World.cell?_spot hc0
    obtain ⟨b, o, spot⟩ := x
    simp only at hsp
    subst hsp
    refine ⟨rfl, im0 (cell_lt (o := o) (by simpa [Addr.add] using hc0)), cvv_ints _ _ fun i hi => ?_⟩
    have hi' : i < len := by simp at hi; omega
    have := h4 i (by omega)
    have e : (⟨b, o, none⟩ : Addr).add i = ⟨b, o + i, none⟩ := by
      unfold Addr.add
      by_cases h : i = 0 <;> simp [h]
    rw [e] at this
    rw [this]
    simp [List.getD_eq_getElem?_getD, List.getElem?_take, hi']
end Go.Proofs.YtbcmiddffckgmaaDoor.Am
