/- The table of types, checked by reckoning. -/
import Derived.Test.YtjjmoihpjmojiaaDoorD12
set_option linter.unusedVariables false
set_option linter.unusedSimpArgs false
namespace Go.Proofs.YtjjmoihpjmojiaaDoor.D
open Go.RowKit

def kOk (P : Program) (k : TK) (d : Option TypeDesc) : Bool := match k, d with
  | .int k, some (.int k') => keq k k'
  | .bool, some .bool => true
  | .str, some .string => true
  | .slice e, some (.slice e') => Nat.beq e e'
  | .arr n e, some (.array n' e') => Nat.beq n n' && Nat.beq e e'
  | .struct ps, some (.struct fs) => (fs.toList.map (fun f => (f.offset, (P.info? f.type).map (·.size), aggB P f.type)) == ps.map (fun p => (p.1, some p.2.1, p.2.2))) && fs.toList.all fun f => (P.underlying f.type).isSome
  | .other, some d => match d with
    | .struct _ | .array _ _ => false
    | _ => true
  | _, _ => false
def okB (P : Program) (t : Nat) (r : TR) : Bool := ((P.info? t).map (·.size) == some r.sz) && kOk P r.k (P.underlying t)
theorem ok_of {P : Program} {t : Nat} {r : TR} (h : okB P t r = true) (hz : ∀ l, r.z = some l → ∃ v : Value, (P.info? t).bind (·.zero) = some v ∧ v.cells.toList = l) : TR.ok P t r := by
  unfold okB at h
  rw [Bool.and_eq_true, beq_iff_eq] at h
  refine ⟨h.1, hz, ?_⟩
  have h2 := h.2
  unfold kOk at h2
  split at h2
  · rename_i k k' hk hu; rw [hk, hu, keq_eq h2]
  · rename_i hk hu; rw [hk]; exact hu
  · rename_i hk hu; rw [hk]; exact hu
  · rename_i e e' hk hu; rw [hk, hu, Nat.eq_of_beq_eq_true h2]
  · rename_i m e m' e' hk hu
    rw [Bool.and_eq_true] at h2
    rw [hk, hu, Nat.eq_of_beq_eq_true h2.1, Nat.eq_of_beq_eq_true h2.2]
  · rename_i ps fs hk hu
    rw [Bool.and_eq_true, beq_iff_eq] at h2
    rw [hk]
    exact ⟨fs, hu, h2.1, h2.2⟩
  · rename_i d hk hu
    rw [hk]
    refine ⟨d, hu, ?_⟩
    cases d <;> simp_all
  · cases h2
theorem noz {P : Program} {t : Nat} {l : List Value} (h : (none : Option (List Value)) = some l) : ∃ v : Value, (P.info? t).bind (·.zero) = some v ∧ v.cells.toList = l := by cases h
theorem isz {P : Program} {t : Nat} {z : List Value} (v : Value) (h : (P.info? t).bind (·.zero) = some v) (h2 : v.cells.toList = z) (l : List Value) (hl : some z = some l) : ∃ v : Value, (P.info? t).bind (·.zero) = some v ∧ v.cells.toList = l := by
  simp only [Option.some.injEq] at hl
  exact ⟨v, h, h2.trans hl⟩
end Go.Proofs.YtjjmoihpjmojiaaDoor.D
