/- A slice beside nil. -/
import Derived.Test.YtjjmoihpjmojiaaDoorD21
set_option linter.unusedVariables false
set_option linter.unusedSimpArgs false
namespace Go.Proofs.YtjjmoihpjmojiaaDoor.D
open Go.RowKit

def isNil (τ : List (Nat × TR)) (σ : Sl) (g : Gd) : Op → Option (DV × Bool)
  | .binOp op t x y _ => match tl τ t, ev σ g x, y with
    | some ⟨.slice _, _, _⟩, some d, .const (.slice none 0 0) => match op with
      | .eql => some (d, true)
      | .neq => some (d, false)
      | _ => none
    | _, _, _ => none
  | _ => none
section
variable {P : Program} {τ : List (Nat × TR)} {n : Nat} {σ σ' : Sl} {H H' : Hp} {C : Cx} {ν ν' : Nm} {w w' W : World} {a : Act} {l rest ops : List Oper} {Q : Exit → Act → World → Prop} {o : Oper} {d : Nat} {g : Gd} {x : DV} {k : Nat} {u : Bool}
theorem nil_len {F : Nat → Prop} (hO : ∀ e ∈ H, EnR ν F w e.1 e.2) {v : Value} (h : DR ν.v F w v x) (hl : lenD H x = some k) : ∃ ao cap, v = .slice ao k cap ∧ (ao = none → k = 0) := by
  unfold lenD at hl
  split at hl
  · simp only [Option.some.injEq] at hl
    subst hl
    have h1 := h.sl_inv
    cases h1 with
    | nil => exact ⟨none, 0, rfl, fun _ => rfl⟩
    | e0 ad => exact ⟨some ad, 0, rfl, fun h => by cases h⟩
    | sl ad cap => exact ⟨some ad, cap, rfl, fun h => by cases h⟩
  · simp only [Option.some.injEq] at hl
    subst hl
    exact ⟨none, 0, h.fr_v.1, fun _ => rfl⟩
  · rename_i r
    have hown : ∀ {b e sz m : Nat} {xs : List Value} {v : Value}, w.ownsRow b e sz v m xs → ∃ ao cap, v = .slice ao m cap ∧ (ao = none → m = 0) := by
      intro b e sz m xs v ho
      rcases ho.2 with ⟨hn, h0⟩ | ⟨g, cap, cur, hv, _⟩
      · exact ⟨none, 0, by rw [hn, h0], fun _ => h0⟩
      · exact ⟨_, cap, hv, fun h => by cases h⟩
    split at hl
    · rename_i e sz es he
      simp only [Option.some.injEq] at hl
      subst hl
      cases h with
      | fr h => cases h
      | own =>
        have h2 : OT F w (ν.v r) (.osl e sz es) (ν.S r) := hO _ (hl_mem he)
        generalize ν.v r = vv at h2
        cases h2 with
        | fr h => cases h
        | e0 e sz ad => exact ⟨some ad, 0, rfl, fun h => by cases h⟩
        | osl _ _ _ _ _ _ _ _ ho => exact hown ho
    · rename_i e sz es i j q he
      simp only [Option.some.injEq] at hl
      subst hl
      cases h with
      | fr h => cases h
      | own =>
        obtain ⟨xs, u, s, ho, _⟩ := hO _ (hl_mem he)
        exact hown ho
    · rename_i t m cs he
      simp only [Option.some.injEq] at hl
      subst hl
      cases h with
      | fr h => cases h
      | own =>
        obtain ⟨gg, vs, hv, _⟩ := hO _ (hl_mem he)
        exact ⟨_, _, hv, fun h => by cases h⟩
    · cases hl
  · cases hl
/-- Whether a slice is nil is not told, unless it has elements: then it isn't. -/
theorem s_nil (hτ : Tab P τ) (h : St n σ H C w a ν) (hw : Region.wanted o (yielded l.toArray a.tmps) = true) (hd : o.dst = some d) (hf : free n d σ = true) (hp : isNil τ σ none o.op = some (x, u)) (hl : lenD H x = some k)
    (hK : ∀ b : Bool, (b = true → k = 0) → ∀ a' w' ν', St n ((d, none, .v (.bool (b == u))) :: σ) H C w' a' ν' → wpList P l.toArray Q rest a' w') : wpList P l.toArray Q (o :: rest) a w := by
  unfold isNil at hp
  split at hp
  · rename_i op t y z yt ho
    split at hp
    · rename_i e sz' z' d' ht hx
      have hd' : d' = x := by
        split at hp <;> first | (simp only [Option.some.injEq, Prod.mk.injEq] at hp; exact hp.1) | cases hp
      subst hd'
      obtain ⟨ao, cap, hv, h0⟩ := nil_len h.o.ent (h.f.eval hx trivial) hl
      have hu : P.underlying t = some (.slice e) := (hτ.get ht).2.2
      have heq : (Op.equal t (.slice ao k cap) nilS).run P w = .ok ao.isNone w := by
        unfold Op.equal Op.equalIn
        cases ao <;> simp [Op.maxDepth, run_underlying hu]
      have hrun : (execOp a.eval o).run P w = .ok (.value (.bool (ao.isNone == u))) w := by
        unfold execOp
        simp only [ho]
        refine run_val ?_
        have hc : a.eval (.const nilS) = nilS := rfl
        split at hp
        · simp only [Option.some.injEq, Prod.mk.injEq, true_and] at hp
          subst hp
          rw [hv, hc]
          simp [eqGuard, binOp, heq]
        · simp only [Option.some.injEq, Prod.mk.injEq, true_and] at hp
          subst hp
          rw [hv, hc]
          simp [eqGuard, binOp, heq]
        · cases hp
      refine s_val h hw hd hf (x := .v (.bool (ao.isNone == u))) (H' := H) (.of_run hrun ⟨ν, fun _ _ => rfl, h.o, fun k hk => ⟨hk, rfl⟩, .fr (.v _ rfl)⟩) (hK ao.isNone (fun hb => h0 (by simpa using hb)))
    · cases hp
  · cases hp
end
end Go.Proofs.YtjjmoihpjmojiaaDoor.D
