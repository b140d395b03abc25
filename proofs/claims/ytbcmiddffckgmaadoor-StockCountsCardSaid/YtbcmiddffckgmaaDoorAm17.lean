/- The abstract machine: more fuel changes nothing; a calculus of what holds behind a run. -/
import Derived.Test.YtbcmiddffckgmaaDoorAm0
set_option linter.unusedVariables false
set_option linter.unusedSimpArgs false
set_option linter.unnecessarySimpa false
namespace Go.Proofs.YtbcmiddffckgmaaDoor.Am
open Go

theorem bind_mono {α β : Type} {x y : Option α} {f g : α → Option β} {r : β} (h : x.bind f = some r)
    (hx : ∀ a, x = some a → y = some a) (hf : ∀ a b, f a = some b → g a = some b) : y.bind g = some r := by
  cases x with
  | none => simp at h
  | some a => rw [hx a rfl]; exact hf a r h

structure MonoK (C : Cfg) (k : Nat) : Prop where
  call : ∀ f args H r, call C k f args H = some r → call C (k + 1) f args H = some r
  exec : ∀ m c st r, exec C k m c st = some r → exec C (k + 1) m c st = some r
  ops : ∀ m h ops todo st r, runOps C k m h ops todo st = some r → runOps C (k + 1) m h ops todo st = some r

theorem monoK (C : Cfg) : ∀ k, MonoK C k
  | 0 => ⟨by intro f args H r h; simp [Am.call] at h, by intro m c st r h; simp [Am.exec] at h, by intro m h ops todo st r h; simp [Am.runOps] at h⟩
  | k + 1 => by
    have ih := monoK C k
    refine ⟨?_, ?_, ?_⟩
    · intro f args H r h
      rw [Am.call] at h ⊢
      cases ho : C.orc f with
      | some g => rw [ho] at h; exact h
      | none =>
        rw [ho] at h
        simp only [] at h ⊢
        refine bind_mono h (fun _ h => h) fun fn r h => ?_
        refine bind_mono h (fun _ h => h) fun c r h => ?_
        split at h
        · simp at h
        · rename_i hn
          rw [if_neg hn]
          split at h
          · rename_i hc; rw [if_pos hc]
            exact bind_mono h (fun a h => ih.exec _ _ _ _ h) fun _ _ h => h
          · rename_i hc; rw [if_neg hc]
            exact bind_mono h (fun a h => ih.exec _ _ _ _ h) fun _ _ h => h
    · intro m c st r h
      cases c with
      | skip => rw [Am.exec] at h ⊢; exact h
      | label _ => rw [Am.exec] at h ⊢; exact h
      | exit id => rw [Am.exec] at h ⊢; exact h
      | ret => rw [Am.exec] at h ⊢; exact h
      | seq a b =>
        rw [Am.exec] at h ⊢
        refine bind_mono h (fun a h => ih.exec _ _ _ _ h) fun x r h => ?_
        obtain ⟨e, st'⟩ := x
        cases e with
        | norm => exact ih.exec _ _ _ _ h
        | exit _ => exact h
        | ret => exact h
      | cond o a b =>
        rw [Am.exec] at h ⊢
        split at h <;> first | exact ih.exec _ _ _ _ h | simp at h
      | block id b =>
        rw [Am.exec] at h ⊢
        simp only [Option.map_eq_some_iff] at h ⊢
        obtain ⟨a, h, hr⟩ := h
        exact ⟨a, ih.exec _ _ _ _ h, hr⟩
      | loop b =>
        rw [Am.exec] at h ⊢
        refine bind_mono h (fun a h => ih.exec _ _ _ _ h) fun x r h => ?_
        obtain ⟨e, st'⟩ := x
        cases e with
        | norm => exact ih.exec _ _ _ _ h
        | exit _ => exact h
        | ret => exact h
      | region i ops draw =>
        rw [Am.exec] at h ⊢
        split at h
        · simp at h
        · rename_i hc; rw [if_neg hc]
          simp only [Option.map_eq_some_iff] at h ⊢
          obtain ⟨a, h, hr⟩ := h
          exact ⟨a, ih.ops _ _ _ _ _ _ h, hr⟩
      | _ => simp [Am.exec] at h
    · intro m hd ops todo st r h
      cases todo with
      | nil => rw [Am.runOps] at h ⊢; exact h
      | cons i rest =>
        rw [Am.runOps] at h ⊢
        split at h
        · simp at h
        · rename_i o ho
          split at h
          · rename_i hw; rw [if_pos hw]
            refine bind_mono h (fun a h => ?_) fun x r h => ?_
            · split at h
              · exact ih.call _ _ _ _ h
              · exact h
            · obtain ⟨v, H', d⟩ := x
              simp only [] at h ⊢
              split at h
              · simp at h
              · rename_i hd'; rw [if_neg hd']; exact ih.ops _ _ _ _ _ _ h
          · rename_i hw; rw [if_neg hw]; exact ih.ops _ _ _ _ _ _ h

theorem call_le {C : Cfg} {k k' f args H r} (hk : k ≤ k') (h : call C k f args H = some r) : call C k' f args H = some r := by
  induction hk with
  | refl => exact h
  | step _ ih => exact (monoK C _).call _ _ _ _ ih
theorem exec_le {C : Cfg} {k k' m c st r} (hk : k ≤ k') (h : exec C k m c st = some r) : exec C k' m c st = some r := by
  induction hk with
  | refl => exact h
  | step _ ih => exact (monoK C _).exec _ _ _ _ ih
theorem ops_le {C : Cfg} {k k' m hd ops todo st r} (hk : k ≤ k') (h : runOps C k m hd ops todo st = some r) : runOps C k' m hd ops todo st = some r := by
  induction hk with
  | refl => exact h
  | step _ ih => exact (monoK C _).ops _ _ _ _ _ _ ih

/-- Behind the call, Q holds of its result, the heap and what was written. -/
def WC (C : Cfg) (f : Nat) (args : List PV) (H : Heap) (Q : PV → Heap → Wr → Prop) : Prop := ∃ k v H' d, call C k f args H = some (v, H', d) ∧ Q v H' d
/-- Behind the code, Q holds of how it ends and of the state. -/
def W (C : Cfg) (m : Nat) (c : Code) (st : St) (Q : Ctl → St → Prop) : Prop := ∃ k e s, exec C k m c st = some (e, s) ∧ Q e s
def WO (C : Cfg) (m hd : Nat) (ops : Array Oper) (todo : List Nat) (st : St) (Q : St → Prop) : Prop := ∃ k s, runOps C k m hd ops todo st = some s ∧ Q s
/-- Behind the rest of a region's operations. -/
def WR (C : Cfg) (m hd : Nat) (ops : Array Oper) (j : Nat) (l : List Oper) (st : St) (Q : St → Prop) : Prop :=
  ops.toList.drop j = l → WO C m hd ops (List.range' j l.length) st Q
def WX (x : Option (PV × Heap × Wr)) (K : PV → Heap → Wr → Prop) : Prop := ∃ v H d, x = some (v, H, d) ∧ K v H d
/-- A branch on a value. -/
def BrP (x : Option PV) (A B : Prop) : Prop := (x = some (.bool true) ∧ A) ∨ (x = some (.bool false) ∧ B)

theorem WX_some {v H d} {K : PV → Heap → Wr → Prop} : WX (some (v, H, d)) K = K v H d := by
  apply propext; constructor
  · rintro ⟨v, H, d, h, hk⟩; cases h; exact hk
  · intro h; exact ⟨v, H, d, rfl, h⟩
theorem BrP_some {b : Bool} {A B : Prop} : BrP (some (.bool b)) A B = (if b = true then A else B) := by
  cases b <;> simp [BrP]
theorem WX_ite {p : Prop} [Decidable p] {x y} {K} : WX (if p then x else y) K = (if p then WX x K else WX y K) := by split <;> rfl

theorem WC_mono {C : Cfg} {f args H Q R} (h : WC C f args H Q) (hq : ∀ v H' d, Q v H' d → R v H' d) : WC C f args H R :=
  let ⟨k, v, H', d, e, q⟩ := h; ⟨k, v, H', d, e, hq _ _ _ q⟩
theorem W_mono {C : Cfg} {m c st Q R} (h : W C m c st Q) (hq : ∀ e s, Q e s → R e s) : W C m c st R :=
  let ⟨k, v, H', e, q⟩ := h; ⟨k, v, H', e, hq _ _ q⟩
/-- What a call gives is one thing. -/
theorem WC_det {C : Cfg} {f args H Q v H' d} {k} (h : call C k f args H = some (v, H', d)) : WC C f args H Q = Q v H' d := by
  apply propext; constructor
  · rintro ⟨k', v', H'', d', h', q⟩
    have h1 := call_le (Nat.le_max_left k k') h
    have h2 := call_le (Nat.le_max_right k k') h'
    rw [h1] at h2; cases h2; exact q
  · intro q; exact ⟨k, v, H', d, h, q⟩
/-- A pure call. -/
def Pure (C : Cfg) (f : Nat) (args : List PV) (v : PV) : Prop := ∀ H, WC C f args H fun v' H' d => v' = v ∧ H' = H ∧ d = []
theorem WC_pure {C : Cfg} {f args v} (h : Pure C f args v) {H Q} : WC C f args H Q = Q v H [] := by
  obtain ⟨k, v', H', d, e, rfl, rfl, rfl⟩ := h H
  exact WC_det e

theorem W_skip {C m st Q} : W C m .skip st Q = Q .norm st := by
  apply propext; constructor
  · rintro ⟨k, e, s, h, q⟩; cases k <;> simp [exec] at h; obtain ⟨rfl, rfl⟩ := h; exact q
  · intro q; exact ⟨1, _, _, by rw [exec], q⟩
theorem W_label {C m st Q i} : W C m (.label i) st Q = Q .norm st := by
  apply propext; constructor
  · rintro ⟨k, e, s, h, q⟩; cases k <;> simp [exec] at h; obtain ⟨rfl, rfl⟩ := h; exact q
  · intro q; exact ⟨1, _, _, by rw [exec], q⟩
theorem W_ret {C m st Q} : W C m .ret st Q = Q .ret st := by
  apply propext; constructor
  · rintro ⟨k, e, s, h, q⟩; cases k <;> simp [exec] at h; obtain ⟨rfl, rfl⟩ := h; exact q
  · intro q; exact ⟨1, _, _, by rw [exec], q⟩
theorem W_exit {C m st Q i} : W C m (.exit i) st Q = Q (.exit i) st := by
  apply propext; constructor
  · rintro ⟨k, e, s, h, q⟩; cases k <;> simp [exec] at h; obtain ⟨rfl, rfl⟩ := h; exact q
  · intro q; exact ⟨1, _, _, by rw [exec], q⟩
/-- What follows a code that ended so. -/
def thenP (e : Ctl) (A B : Prop) : Prop := match e with | .norm => A | _ => B
theorem W_seq {C m st Q a b} : W C m (.seq a b) st Q = W C m a st fun e s => thenP e (W C m b s Q) (Q e s) := by
  apply propext; constructor
  · rintro ⟨k, e, s, h, q⟩
    cases k with
    | zero => simp [exec] at h
    | succ k =>
      rw [exec] at h
      rw [Option.bind_eq_some_iff] at h
      obtain ⟨⟨e1, s1⟩, h1, h2⟩ := h
      refine ⟨k, e1, s1, h1, ?_⟩
      cases e1 with
      | norm => exact ⟨k, e, s, h2, q⟩
      | exit _ => cases h2; exact q
      | ret => cases h2; exact q
  · rintro ⟨k, e1, s1, h1, q⟩
    cases e1 with
    | norm =>
      obtain ⟨k', e, s, h2, q⟩ := q
      refine ⟨max k k' + 1, e, s, ?_, q⟩
      rw [exec, exec_le (Nat.le_max_left k k') h1]
      exact exec_le (Nat.le_max_right k k') h2
    | exit _ => exact ⟨k + 1, _, s1, by rw [exec, h1]; rfl, q⟩
    | ret => exact ⟨k + 1, _, s1, by rw [exec, h1]; rfl, q⟩
theorem W_loop {C m st Q b} : W C m (.loop b) st Q = W C m b st fun e s => thenP e (W C m (.loop b) s Q) (Q e s) := by
  apply propext; constructor
  · rintro ⟨k, e, s, h, q⟩
    cases k with
    | zero => simp [exec] at h
    | succ k =>
      rw [exec] at h
      rw [Option.bind_eq_some_iff] at h
      obtain ⟨⟨e1, s1⟩, h1, h2⟩ := h
      refine ⟨k, e1, s1, h1, ?_⟩
      cases e1 with
      | norm => exact ⟨k, e, s, h2, q⟩
      | exit _ => cases h2; exact q
      | ret => cases h2; exact q
  · rintro ⟨k, e1, s1, h1, q⟩
    cases e1 with
    | norm =>
      obtain ⟨k', e, s, h2, q⟩ := q
      refine ⟨max k k' + 1, e, s, ?_, q⟩
      rw [exec, exec_le (Nat.le_max_left k k') h1]
      exact exec_le (Nat.le_max_right k k') h2
    | exit _ => exact ⟨k + 1, _, s1, by rw [exec, h1]; rfl, q⟩
    | ret => exact ⟨k + 1, _, s1, by rw [exec, h1]; rfl, q⟩
def blk (id : Nat) (e : Ctl) : Ctl := match e with
  | .exit j => if j = id then .norm else .exit j
  | e => e
theorem W_block {C m st Q id b} : W C m (.block id b) st Q = W C m b st fun e s => Q (blk id e) s := by
  apply propext; constructor
  · rintro ⟨k, e, s, h, q⟩
    cases k with
    | zero => simp [exec] at h
    | succ k =>
      rw [exec, Option.map_eq_some_iff] at h
      obtain ⟨⟨e1, s1⟩, h1, h2⟩ := h
      refine ⟨k, e1, s1, h1, ?_⟩
      cases e1 <;> cases h2 <;> exact q
  · rintro ⟨k, e1, s1, h1, q⟩
    refine ⟨k + 1, blk id e1, s1, ?_, q⟩
    rw [exec, h1]
    cases e1 <;> rfl
theorem W_cond {C m st Q o a b} : W C m (.cond o a b) st Q = BrP (evalO st.ts o) (W C m a st Q) (W C m b st Q) := by
  apply propext; constructor
  · rintro ⟨k, e, s, h, q⟩
    cases k with
    | zero => simp [exec] at h
    | succ k =>
      rw [exec] at h
      split at h
      · rename_i ho; exact Or.inl ⟨ho, k, e, s, h, q⟩
      · rename_i ho; exact Or.inr ⟨ho, k, e, s, h, q⟩
      · simp at h
  · rintro (⟨ho, k, e, s, h, q⟩ | ⟨ho, k, e, s, h, q⟩)
    · exact ⟨k + 1, e, s, by rw [exec, ho]; exact h, q⟩
    · exact ⟨k + 1, e, s, by rw [exec, ho]; exact h, q⟩
theorem W_region {C m st Q i ops draw} : W C m (.region i ops draw) st Q =
    ((draw && !dOk ops) = false ∧ WR C m (bif draw then dHd ops else 0) ops 0 ops.toList st fun s => Q .norm s) := by
  apply propext; constructor
  · rintro ⟨k, e, s, h, q⟩
    cases k with
    | zero => simp [exec] at h
    | succ k =>
      rw [exec] at h
      split at h
      · simp at h
      · rename_i hd
        rw [Option.map_eq_some_iff] at h
        obtain ⟨s1, h1, h2⟩ := h
        cases h2
        refine ⟨by cases draw <;> simp_all, fun _ => ⟨k, _, ?_, q⟩⟩
        rw [Array.length_toList, ← List.range_eq_range']
        cases draw <;> exact h1
  · rintro ⟨hd, h⟩
    obtain ⟨k, s, h, q⟩ := h rfl
    refine ⟨k + 1, .norm, s, ?_, q⟩
    rw [exec, if_neg (by cases draw <;> simp_all)]
    rw [Array.length_toList, ← List.range_eq_range'] at h
    have : runOps C k m (if draw = true then dHd ops else 0) ops (List.range ops.size) st = some s := by
      cases draw <;> exact h
    rw [this]; rfl

theorem WO_nil {C m hd ops st Q} : WO C m hd ops [] st Q = Q st := by
  apply propext; constructor
  · rintro ⟨k, s, h, q⟩; cases k <;> simp [runOps] at h; subst h; exact q
  · intro q; exact ⟨1, _, by rw [runOps], q⟩
theorem WR_nil {C m hd ops j st Q} (hj : j = ops.size) : WR C m hd ops j [] st Q = Q st := by
  apply propext; constructor
  · intro h
    have := h (by subst hj; simp)
    rwa [List.length_nil, List.range'_zero, WO_nil] at this
  · intro h _
    rwa [List.length_nil, List.range'_zero, WO_nil]

/-- One operation, then the rest. -/
def WS (C : Cfg) (ts : List PV) (H : Heap) (op : Op) (K : PV → Heap → Wr → Prop) : Prop :=
  match calleeP ts op with
  | some (f, as) => WC C f as H K
  | none => WX (opP C.P ts H op) K
def gdP (o : Oper) (ops : Array Oper) (ts : List PV) : Bool := wantedP o ops ts

theorem WO_cons {C : Cfg} {m hd ops j rest ts H wr Q o} (ho : ops[j]? = some o) : WO C m hd ops (j :: rest) ⟨ts, H, wr⟩ Q =
    (if wantedP o ops ts = true then WS C ts H o.op fun v H' d => (j < hd → d = []) ∧ WO C m hd ops rest ⟨putP ts o.dst v, H', addWs (curD H) m wr d⟩ Q
     else WO C m hd ops rest ⟨putP ts o.dst undefP, H, wr⟩ Q) := by
  apply propext; constructor
  · rintro ⟨k, s, h, q⟩
    cases k with
    | zero => simp [runOps] at h
    | succ k =>
      rw [runOps, ho] at h
      simp only [] at h
      split at h
      · rename_i hw; rw [if_pos hw, WS]
        rw [Option.bind_eq_some_iff] at h
        obtain ⟨⟨v, H', d⟩, h1, h2⟩ := h
        simp only [] at h2
        split at h2
        · simp at h2
        · rename_i hd'
          have hdd : j < hd → d = [] := fun hj => by cases d with | nil => rfl | cons a l => exact absurd ⟨hj, by simp⟩ hd'
          split at h1
          · rename_i f as hc; rw [hc]; exact ⟨k, v, H', d, h1, hdd, k, s, h2, q⟩
          · rename_i hc; rw [hc]; exact ⟨v, H', d, h1, hdd, k, s, h2, q⟩
      · rename_i hw; rw [if_neg hw]; exact ⟨k, s, h, q⟩
  · intro h
    split at h
    · rename_i hw
      rw [WS] at h
      split at h
      · rename_i f as hc
        obtain ⟨k, v, H', d, h1, hdd, k', s, h2, q⟩ := h
        refine ⟨max k k' + 1, s, ?_, q⟩
        rw [runOps, ho]; simp only []
        rw [if_pos hw, hc]; simp only []
        rw [call_le (Nat.le_max_left k k') h1, Option.bind_some]; simp only []
        rw [if_neg (fun hh => hh.2 (hdd hh.1))]
        exact ops_le (Nat.le_max_right k k') h2
      · rename_i hc
        obtain ⟨v, H', d, h1, hdd, k', s, h2, q⟩ := h
        refine ⟨k' + 1, s, ?_, q⟩
        rw [runOps, ho]; simp only []
        rw [if_pos hw, hc]; simp only []
        rw [h1, Option.bind_some]; simp only []
        rw [if_neg (fun hh => hh.2 (hdd hh.1))]
        exact h2
    · rename_i hw
      obtain ⟨k, s, h, q⟩ := h
      refine ⟨k + 1, s, ?_, q⟩
      rw [runOps, ho]; simp only []
      rw [if_neg hw]; exact h

theorem WS_mono_iff {C : Cfg} {ts H op} {K K' : PV → Heap → Wr → Prop} (h : ∀ v H' d, K v H' d = K' v H' d) : WS C ts H op K = WS C ts H op K' := by
  have : K = K' := by funext v H' d; exact h v H' d
  rw [this]

theorem WR_cons {C : Cfg} {m hd ops j o l ts H wr Q} : WR C m hd ops j (o :: l) ⟨ts, H, wr⟩ Q =
    (ops.toList.drop j = o :: l → (if wantedP o ops ts = true then WS C ts H o.op fun v H' d => (j < hd → d = []) ∧ WR C m hd ops (j + 1) l ⟨putP ts o.dst v, H', addWs (curD H) m wr d⟩ Q
     else WR C m hd ops (j + 1) l ⟨putP ts o.dst undefP, H, wr⟩ Q)) := by
  unfold WR
  apply forall_congr
  intro hl
  have ho : ops[j]? = some o := by
    have := congrArg (·[0]?) hl
    simpa using this
  have hl' : ops.toList.drop (j + 1) = l := by
    have := congrArg List.tail hl
    simpa using this
  rw [List.length_cons, List.range'_succ, WO_cons ho]
  simp only [hl', forall_const]

theorem addWs_nil {D m wr} : addWs D m wr [] = wr := rfl

theorem W_loop_inv {C : Cfg} {m b Q} {α : Type} (I : α → St → Prop) (dec : α → Nat)
    (step : ∀ a st, I a st → W C m b st fun e s => thenP e (∃ a', dec a' < dec a ∧ I a' s) (Q e s)) :
    ∀ n a st, dec a = n → I a st → W C m (.loop b) st Q := by
  intro n
  induction n using Nat.strongRecOn with
  | _ n ih =>
    intro a st hn hi
    rw [W_loop]
    refine W_mono (step a st hi) ?_
    intro e s h
    cases e with
    | norm => obtain ⟨a', hlt, hi'⟩ := h; exact ih _ (hn ▸ hlt) a' s rfl hi'
    | exit _ => exact h
    | ret => exact h

theorem WC_own {C : Cfg} {f args H Q fn c} (hf : C.P.funcs[f]? = some fn) (hc : fn.body = some c) (hn : (fn.name == "runtime.NumGoroutine") = false)
    (ho : C.orc f = none) (hi : C.inl f = false ∨ H = [])
    (h : W C 0 c ⟨args ++ List.replicate (fn.ntmps - args.length) undefP, [] :: H, []⟩ fun e st =>
      (∀ i, e ≠ .exit i) ∧ WX ((resultsP C.P fn st.H st.ts).bind fun v => (reify st.H H.length C.deep v).map fun v => (v, st.H.tail, st.wr)) Q) :
    WC C f args H Q := by
  obtain ⟨k, e, st, h1, he, v, H', d, h2, q⟩ := h
  refine ⟨k + 1, v, H', d, ?_, q⟩
  rw [call, ho]
  simp only []
  rw [hf, Option.bind_some, hc, Option.bind_some, if_neg (by simp [hn]), if_neg (by rintro ⟨h1, h2⟩; rcases hi with h | h; simp [h] at h1; exact h2 h), h1, Option.bind_some]
  cases e with
  | exit i => exact absurd rfl (he i)
  | norm => exact h2
  | ret => exact h2
theorem WC_inl {C : Cfg} {f args H Q fn c} (hf : C.P.funcs[f]? = some fn) (hc : fn.body = some c) (hn : (fn.name == "runtime.NumGoroutine") = false)
    (ho : C.orc f = none) (hi : C.inl f = true) (hH : H ≠ [])
    (h : W C (curN H) c ⟨args ++ List.replicate (fn.ntmps - args.length) undefP, H, []⟩ fun e st =>
      (∀ i, e ≠ .exit i) ∧ WX ((resultsP C.P fn st.H st.ts).map fun v => (v, st.H, st.wr)) Q) :
    WC C f args H Q := by
  obtain ⟨k, e, st, h1, he, v, H', d, h2, q⟩ := h
  refine ⟨k + 1, v, H', d, ?_, q⟩
  rw [call, ho]
  simp only []
  rw [hf, Option.bind_some, hc, Option.bind_some, if_neg (by simp [hn]), if_pos ⟨hi, hH⟩, h1, Option.bind_some]
  cases e with
  | exit i => exact absurd rfl (he i)
  | norm => exact h2
  | ret => exact h2
theorem WC_orc {C : Cfg} {f args H Q g v} (ho : C.orc f = some g) (hg : g args = some v) : WC C f args H Q = Q v H [] := by
  refine WC_det (k := 1) ?_
  rw [call, ho]; simp only []; rw [hg]; rfl
end Go.Proofs.YtbcmiddffckgmaaDoor.Am
