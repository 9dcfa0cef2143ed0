/- Operations in a row; steps through code. -/
import Derived.Test.YtjjmoihpjmojiaaDoorD5
set_option linter.unusedVariables false
set_option linter.unusedSimpArgs false
namespace Go.Proofs.YtjjmoihpjmojiaaDoor.D
open Go.RowKit

/-! ### 7. Pure operations in a row: mode 0: no guard; 1: a guard that is not known; 2: a guard that is met; 3: one that is not -/
def gslot (l : List Oper) (j : Nat) : Option Nat := match l[j]? with
  | some o => o.dst
  | none => none
def run (τ : List (Nat × TR)) (H : Hp) (n : Nat) (l : List Oper) : List Nat → Sl → List Oper → Option (Sl × List Oper)
  | [], σ, ops => some (σ, ops)
  | _ :: _, _, [] => none
  | m :: ms, σ, o :: ops => match o.dst with
    | none => none
    | some d => bif free n d σ then
      (match m, o.guard with
      | 0, none => match pv τ H σ none o.op with
        | some v => run τ H n l ms ((d, none, v) :: σ) ops
        | none => none
      | 1, some (j, u) => match gslot l j with
        | some s => bif Nat.beq s d then none else (match pv τ H σ (some (s, u)) o.op with
          | some v => run τ H n l ms ((d, some (s, u), v) :: σ) ops
          | none => none)
        | none => none
      | 2, some (j, u) => match gslot l j with
        | some s => (match lk σ s with
          | some (none, .v (.bool b)) => bif b == u then (match pv τ H σ none o.op with
            | some v => run τ H n l ms ((d, none, v) :: σ) ops
            | none => none) else none
          | _ => none)
        | none => none
      | 3, some (j, u) => match gslot l j with
        | some s => (match lk σ s, lk σ d with
          | some (none, .v (.bool b)), none => bif b == !u then run τ H n l ms σ ops else none
          | _, _ => none)
        | none => none
      | _, _ => none)
      else none
section
variable {P : Program} {τ : List (Nat × TR)} {n : Nat} {σ σ' : Sl} {H : Hp} {C : Cx} {ν : Nm} {ι : Nat → Value} {w W : World} {a : Act} {l rest ops : List Oper} {Q : Exit → Act → World → Prop} {o : Oper} {d : Nat} {Kc : Act → World → Prop}
theorem gslot_yield {j s : Nat} {b : Bool} (hj : gslot l j = some s) (hs : a.tmps[s]? = some (.bool b)) : yielded l.toArray a.tmps j = some b := by
  unfold gslot at hj
  split at hj
  · rename_i o ho
    simp [yielded, ho, hj, hs]
  · cases hj
theorem gslot_iff {j s : Nat} {u : Bool} (hj : gslot l j = some s) : yielded l.toArray a.tmps j = some u ↔ a.tmps[s]? = some (.bool u) := by
  unfold gslot at hj
  split at hj
  · rename_i o ho
    constructor
    · intro h
      unfold yielded at h
      simp only [List.getElem?_toArray, ho, Option.bind_some, hj] at h
      split at h
      · rename_i b hb
        simp only [Option.some.injEq] at h
        rw [hb, h]
      · cases h
    · intro h
      simp [yielded, ho, hj, h]
  · cases hj
/-- One operation whose run is known. -/
theorem step1 {v : Value} (hw : Region.wanted o (yielded l.toArray a.tmps) = true) (hrun : (execOp a.eval o).run P w = .ok (.value v) W) (h : wpList P l.toArray Q rest (a.put o.dst v) W) : wpList P l.toArray Q (o :: rest) a w := by
  unfold wpList
  rw [if_pos hw]
  refine .inl ?_
  unfold Oper.wp
  rw [hrun]
  exact h
theorem step1s (hw : Region.wanted o (yielded l.toArray a.tmps) = true) (hrun : (execOp a.eval o).run P w = .ok .skip W) (h : wpList P l.toArray Q rest (a.put o.dst undef) W) : wpList P l.toArray Q (o :: rest) a w := by
  unfold wpList
  rw [if_pos hw]
  refine .inl ?_
  unfold Oper.wp
  rw [hrun]
  exact h
theorem step0 (hw : Region.wanted o (yielded l.toArray a.tmps) = false) (h : wpList P l.toArray Q rest (a.put o.dst undef) w) : wpList P l.toArray Q (o :: rest) a w := by
  unfold wpList
  rw [if_neg (by rw [hw]; decide)]
  exact h
theorem wanted_none (hg : o.guard = none) : Region.wanted o (yielded l.toArray a.tmps) = true := by simp [Region.wanted, hg]
theorem Fr.bool {F : Nat → Prop} (hF : Fr ν.v F w n σ a) {s : Nat} {b : Bool} (h : lk σ s = some (none, .v (.bool b))) : a.tmps[s]? = some (.bool b) := by
  obtain ⟨v, h1, h2⟩ := hF.at_ s none _ h trivial
  rw [h1, h2.fr_v.1]
theorem run_fr {F : Nat → Prop} (hτ : Tab P τ) (w : World) (hO : ∀ e ∈ H, EnR ν F w e.1 e.2) : ∀ (ms : List Nat) (σ : Sl) (ops : List Oper) (a : Act), run τ H n l ms σ ops = some (σ', rest) → Fr ν.v F w n σ a → (∀ a', Fr ν.v F w n σ' a' → wpList P l.toArray Q rest a' w) → wpList P l.toArray Q ops a w := by
  intro ms
  induction ms with
  | nil =>
    intro σ ops a h hF hK
    simp only [run, Option.some.injEq, Prod.mk.injEq] at h
    obtain ⟨rfl, rfl⟩ := h
    exact hK a hF
  | cons m ms ih =>
    intro σ ops a h hF hK
    cases ops with
    | nil => cases h
    | cons o ops =>
      unfold run at h
      split at h
      · cases h
      · rename_i d hd
        cases hf : free n d σ with
        | false => rw [hf] at h; cases h
        | true =>
          rw [hf] at h
          simp only [cond_true] at h
          split at h
          · rename_i hg
            split at h
            · rename_i x hv
              obtain ⟨v, h1, h2⟩ := pv_ok (P := P) (w := w) (g := none) hτ hF hO trivial hv
              refine step1 (wanted_none hg) h1 ?_
              rw [hd]
              exact ih _ _ _ h (hF.put hf none x v (fun _ _ h => by cases h) (fun _ => h2)) hK
            · cases h
          · rename_i j u hg
            split at h
            · rename_i s hs
              cases hsd : Nat.beq s d with
              | true => rw [hsd] at h; cases h
              | false =>
                rw [hsd] at h
                simp only [cond_false] at h
                have hne := Nat.ne_of_beq_eq_false hsd
                split at h
                · rename_i x hv
                  by_cases hon : a.tmps[s]? = some (.bool u)
                  · have hy := (gslot_iff hs).2 hon
                    obtain ⟨v, h1, h2⟩ := pv_ok (P := P) (w := w) (g := some (s, u)) hτ hF hO hon hv
                    refine step1 (by simp [Region.wanted, hg, hy]) h1 ?_
                    rw [hd]
                    exact ih _ _ _ h (hF.put hf (some (s, u)) x v (fun _ _ h => by injection h with h; injection h with h _; rw [← h]; exact hne) (fun _ => h2)) hK
                  · have hy : ¬ yielded l.toArray a.tmps j = some u := fun h => hon ((gslot_iff hs).1 h)
                    refine step0 (by simp [Region.wanted, hg, hy]) ?_
                    rw [hd]
                    exact ih _ _ _ h (hF.put hf (some (s, u)) x undef (fun _ _ h => by injection h with h; injection h with h _; rw [← h]; exact hne) (fun h => absurd h hon)) hK
                · cases h
            · cases h
          · rename_i j u hg
            split at h
            · rename_i s hs
              split at h
              · rename_i b hb
                have hslot := hF.bool hb
                have hy := gslot_yield hs hslot
                cases hbu : b == u with
                | false => rw [hbu] at h; cases h
                | true =>
                  rw [hbu] at h
                  simp only [cond_true] at h
                  have : b = u := by simpa using hbu
                  subst this
                  split at h
                  · rename_i x hv
                    obtain ⟨v, h1, h2⟩ := pv_ok (P := P) (w := w) (g := none) hτ hF hO trivial hv
                    refine step1 (by simp [Region.wanted, hg, hy]) h1 ?_
                    rw [hd]
                    exact ih _ _ _ h (hF.put hf none x v (fun _ _ h => by cases h) (fun _ => h2)) hK
                  · cases h
              · cases h
            · cases h
          · rename_i j u hg
            split at h
            · rename_i s hs
              split at h
              · rename_i b hb hnd
                have hslot := hF.bool hb
                have hy := gslot_yield hs hslot
                cases hbu : b == !u with
                | false => rw [hbu] at h; cases h
                | true =>
                  rw [hbu] at h
                  simp only [cond_true] at h
                  have hb' : b = !u := by simpa using hbu
                  refine step0 (by simp [Region.wanted, hg, hy, hb']) ?_
                  rw [hd]
                  exact ih _ _ _ h (hF.skip hf hnd undef) hK
              · cases h
            · cases h
          · cases h
/-- Operations, pure. -/
theorem pures (ms : List Nat) (hτ : Tab P τ) (h : St n σ H C w a ν) (hr : run τ H n l ms σ ops = some (σ', rest)) (hK : ∀ a', St n σ' H C w a' ν → wpList P l.toArray Q rest a' w) : wpList P l.toArray Q ops a w :=
  run_fr hτ w h.o.ent ms σ ops a hr h.f (fun a' hF => hK a' ⟨hF, h.o⟩)

/-! ### 8. Code -/
variable {A B : Code} {K : Act → World → Prop}
theorem k_reg {id : Nat} (h : wpList P l.toArray (Exit.then (fun a w => B.wp P Q a w) Q) l a w) : (Code.seq (Code.region id l.toArray false) B).wp P Q a w := wp_seq (wp_region_lit h)
theorem k_reg1 {id : Nat} (h : wpList P l.toArray Q l a w) : (Code.region id l.toArray false).wp P Q a w := wp_region_lit h
theorem k_end {ops : Array Oper} (h : K a w) : wpList P ops (Exit.then K Q) [] a w := h
theorem k_end1 {ops : Array Oper} (h : Q .normal a w) : wpList P ops Q [] a w := h
theorem k_seq (h : A.wp P (Exit.then (fun a w => B.wp P Q a w) Q) a w) : (Code.seq A B).wp P Q a w := wp_seq h
theorem k_blk {id : Nat} (h : A.wp P (Exit.inBlock id Q) a w) : (Code.block id A).wp P Q a w := wp_block h
theorem k_skip (h : Q .normal a w) : Code.skip.wp P Q a w := wp_skip h
theorem k_if {c : Operand} {b : Bool} (h : St n σ H C w a ν) (hc : ev σ none c = some (.v (.bool b))) (ht : b = true → A.wp P Q a w) (hf : b = false → B.wp P Q a w) : (Code.cond c A B).wp P Q a w := by
  cases b with
  | true => exact wp_cond_true (h.f.evalv hc trivial) (ht rfl)
  | false => exact wp_cond_false (h.f.evalv hc trivial) (hf rfl)
theorem k_ifT {c : Operand} (h : St n σ H C w a ν) (hc : ev σ none c = some (.v (.bool true))) (ht : A.wp P Q a w) : (Code.cond c A B).wp P Q a w := wp_cond_true (h.f.evalv hc trivial) ht
theorem k_ifF {c : Operand} (h : St n σ H C w a ν) (hc : ev σ none c = some (.v (.bool false))) (hf : B.wp P Q a w) : (Code.cond c A B).wp P Q a w := wp_cond_false (h.f.evalv hc trivial) hf
theorem t_then (h : K a w) : Exit.then K Q .normal a w := h
theorem t_blk {id : Nat} (h : Q .normal a w) : Exit.inBlock id Q .normal a w := h
theorem t_exit {id : Nat} (h : Q .normal a w) : Exit.inBlock id Q (.exit id) a w := by simpa [Exit.inBlock] using h
end
end Go.Proofs.YtjjmoihpjmojiaaDoor.D
