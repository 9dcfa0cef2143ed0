/- Parts of slices; comparing with nil. -/
import Derived.Test.YtjjmoihpjmojiaaDoorD20
set_option linter.unusedVariables false
set_option linter.unusedSimpArgs false
namespace Go.Proofs.YtjjmoihpjmojiaaDoor.D
open Go.RowKit

section
variable {P : Program} {τ : List (Nat × TR)} {n : Nat} {σ σ' : Sl} {H H' H0 H1 HL HR Hn : Hp} {C : Cx} {ν ν' : Nm} {ι : Nat → Value} {F F' : Nat → Prop} {w w' W : World} {a : Act} {l rest ops : List Oper} {Q : Exit → Act → World → Prop} {o : Oper} {d : Nat} {A : Nat → Prop} {x r : DV} {g : Gd} {f : FuncId} {fn : Func} {c : Code} {t e sz bytes len : Nat} {q : TR} {z : List Value} {es es2 es3 : List (List DV)} {S S2 : Nat → Prop} {ds : List DV} {cs : List (List DV)} {dt dx : DV}
def evo (σ : Sl) (g : Gd) : Option Operand → Option (Option Int)
  | none => some none
  | some x => match ev σ g x with
    | some (.v (.int _ i)) => some (some i)
    | _ => none
/-- A part of a slice: the slice, from, to. No third bound. -/
def isCut (τ : List (Nat × TR)) (σ : Sl) (g : Gd) : Op → Option (DV × Option Int × Option Int × Nat)
  | .slice t x lo hi none => match tl τ t, ev σ g x, evo σ g lo, evo σ g hi with
    | some ⟨.slice e, _, _⟩, some d, some l, some h => match tl τ e with
      | some q => some (d, l, h, q.sz)
      | none => none
    | _, _, _, _ => none
  | _ => none
theorem evo_ok (hF : Fr ι F w n σ a) (hg : Gd.on a g) {y : Option Operand} {i : Option Int} (h : evo σ g y = some i) : (y = none ∧ i = none) ∨ ∃ x k j, y = some x ∧ i = some j ∧ a.eval x = .int k j := by
  unfold evo at h
  split at h
  · simp only [Option.some.injEq] at h; exact .inl ⟨rfl, h.symm⟩
  · rename_i x
    split at h
    · rename_i k j hx
      simp only [Option.some.injEq] at h
      exact .inr ⟨x, k, j, rfl, h.symm, hF.evalv hx hg⟩
    · cases h
theorem run_bound {k : IntKind} {i : Int} {y : Nat} {code : BoundsCode} (h0 : 0 ≤ i) (h1 : i ≤ y) (w : World) : (Instr.sliceBound (.int k i) y code).run P w = .ok i.toNat w := by
  unfold Instr.sliceBound
  have : 0 ≤ i ∧ i ≤ (y : Int) := ⟨h0, h1⟩
  simp only [asIntOf, Sem.run_bind, Sem.run_pure, Result.andThen_ok, this, and_self, if_true]
theorem run_bounds {len cap : Nat} {lo hi : Option Value} {l h : Int} (hlo : (lo = none ∧ l = 0) ∨ ∃ k, lo = some (.int k l)) (hhi : (hi = none ∧ h = len) ∨ ∃ k, hi = some (.int k h)) (h0 : 0 ≤ l) (h1 : l ≤ h) (h2 : h ≤ cap) (w : World) :
    (Instr.sliceBounds true len cap lo hi none).run P w = .ok (l.toNat, h.toNat, cap) w := by
  have hh : (h.toNat : Int) = h := Int.toNat_of_nonneg (by omega)
  unfold Instr.sliceBounds
  rcases hlo with ⟨rfl, rfl⟩ | ⟨k, rfl⟩ <;> rcases hhi with ⟨rfl, rfl⟩ | ⟨k', rfl⟩
  · simp
  · simp [run_bound (P := P) (k := k') (i := h) (y := cap) (code := .sliceAcap) (by omega) h2 w]
  · simp [run_bound (P := P) (k := k) (i := l) (y := len) (code := .sliceB) h0 (by omega) w]
  · simp [run_bound (P := P) (k := k') (i := h) (y := cap) (code := .sliceAcap) (by omega) h2 w, run_bound (P := P) (k := k) (i := l) (y := h.toNat) (code := .sliceB) h0 (by omega) w]
theorem e_cut {lo hi : Option Int} (hτ : Tab P τ) (hF : Fr ν.v (Fz ν H C w) w n σ a) (hO : Ok ν H C w) (hg : Gd.on a g) (hp : isCut τ σ g o.op = some (.sl es, lo, hi, sz)) (hsz : ∀ (i : Nat) (c : List DV), es[i]? = some c → c.length = sz)
    {l h : Int} (hl : lo.getD 0 = l) (hh : hi.getD es.length = h) (h0 : 0 ≤ l) (h1 : l ≤ h) (h2 : h ≤ es.length) (hes : (es.take h.toNat).drop l.toNat = es2) : Eff P o a w ν H C every H (.sl es2) := by
  unfold isCut at hp
  split at hp
  · rename_i t x lo' hi' ho
    split at hp
    · rename_i e' sz' z' d' l' h' ht hx hlo hhi
      split at hp
      · rename_i q hq
        simp only [Option.some.injEq, Prod.mk.injEq] at hp
        obtain ⟨rfl, rfl, rfl, rfl⟩ := hp
        have hv := (hF.eval hx hg).sl_inv
        have hlen : es2.length = h.toNat - l.toNat := by rw [← hes, List.length_drop, List.length_take]; omega
        have hlo2 : (lo'.map a.eval = none ∧ l = 0) ∨ ∃ k, lo'.map a.eval = some (.int k l) := by
          rcases evo_ok hF hg hlo with ⟨rfl, rfl⟩ | ⟨y, k, j, rfl, rfl, hy⟩
          · exact .inl ⟨rfl, hl.symm⟩
          · refine .inr ⟨k, ?_⟩
            simp only [Option.getD_some] at hl
            rw [Option.map_some, hy, hl]
        have hhi2 : (hi'.map a.eval = none ∧ h = es.length) ∨ ∃ k, hi'.map a.eval = some (.int k h) := by
          rcases evo_ok hF hg hhi with ⟨rfl, rfl⟩ | ⟨y, k, j, rfl, rfl, hy⟩
          · exact .inl ⟨rfl, hh.symm⟩
          · refine .inr ⟨k, ?_⟩
            simp only [Option.getD_some] at hh
            rw [Option.map_some, hy, hh]
        have hu : P.underlying t = some (.slice e') := (hτ.get ht).2.2
        have key : ∀ (ao : Option Addr) (cap : Nat), a.eval x = .slice ao es.length cap → es.length ≤ cap → (execOp a.eval o).run P w = .ok (.value (.slice (if cap = l.toNat then ao else ao.map (·.add (l.toNat * q.sz))) (h.toNat - l.toNat) (cap - l.toNat))) w := by
          intro ao cap hvx hcap
          unfold execOp
          simp only [ho]
          refine run_val ?_
          unfold Instr.sliceAt
          simp only [Sem.run_bind, run_underlying hu, Result.andThen_ok]
          unfold Instr.slice
          have hb := run_bounds (P := P) (len := es.length) (cap := cap) hlo2 hhi2 h0 h1 (by omega) w
          simp only [Option.map_none, Sem.run_bind, run_underlying hu, Result.andThen_ok, hvx, hb, run_sizeOf (hτ.get hq).1, Sem.run_pure]
        generalize hvv : a.eval x = v at hv
        cases hv with
        | nil =>
          have h3 : l = 0 := by simp only [List.length_nil] at h2; omega
          have h4 : h = 0 := by simp only [List.length_nil] at h2; omega
          subst h3 h4
          have := key none 0 hvv (Nat.le_refl _)
          have he : es2 = [] := by rw [← hes]; rfl
          subst he
          simp only [Int.toNat_zero, if_true, Nat.sub_self] at this
          exact .of_run this ⟨ν, fun _ _ => rfl, hO, fun k hk => ⟨hk, rfl⟩, .fr .nil⟩
        | e0 ad =>
          have h3 : l = 0 := by simp only [List.length_nil] at h2; omega
          have h4 : h = 0 := by simp only [List.length_nil] at h2; omega
          subst h3 h4
          have := key (some ad) 0 hvv (Nat.le_refl _)
          have he : es2 = [] := by rw [← hes]; rfl
          subst he
          simp only [Int.toNat_zero, if_true, Nat.sub_self] at this
          exact .of_run this ⟨ν, fun _ _ => rfl, hO, fun k hk => ⟨hk, rfl⟩, .fr (.e0 ad)⟩
        | sl ad cap sz1 _ u hB hcap hsz1 hc hr =>
          have h3 := key (some ad) cap hvv hcap
          have hat : ∀ (i : Nat) (c : List DV), es2[i]? = some c → es[l.toNat + i]? = some c := by
            intro i c hi
            rw [← hes, List.getElem?_drop, List.getElem?_take] at hi
            split at hi
            · exact hi
            · cases hi
          refine .of_run h3 ⟨ν, fun _ _ => rfl, hO, fun k hk => ⟨hk, rfl⟩, .fr ?_⟩
          rw [← hlen]
          by_cases hcl : cap = l.toNat
          · have he : es2 = [] := List.eq_nil_of_length_eq_zero (by omega)
            rw [if_pos hcl]
            subst he
            exact .sl ad _ 0 [] (fun _ _ => nilS) hB (Nat.zero_le _) (fun i c h => by simp at h) (fun i c j d h => by simp at h) (fun i c j d h => by simp at h)
          · rw [if_neg hcl]
            refine .sl (ad.add (l.toNat * q.sz)) _ q.sz es2 (fun i j => u (l.toNat + i) j) (by rw [addr_add_block]; exact hB) (by omega) (fun i c hi => hsz _ c (hat i c hi)) (fun i c j d hi hj => ?_) (fun i c j d hi hj => hr _ c j d (hat i c hi) hj)
            have h5 := hc _ c j d (hat i c hi) hj
            have h6 : sz1 = q.sz := (hsz1 _ c (hat i c hi)).symm.trans (hsz _ c (hat i c hi))
            subst h6
            rw [addr_add_add]
            rw [Nat.add_mul] at h5
            rw [← Nat.add_assoc]
            exact h5
      · cases hp
    · cases hp
  · cases hp
theorem s_cut {lo hi : Option Int} {i j : Int} (hτ : Tab P τ) (hs : St n σ H C w a ν) (hw : Region.wanted o (yielded l.toArray a.tmps) = true) (hd : o.dst = some d) (hf : free n d σ = true) (hp : isCut τ σ none o.op = some (.sl es, lo, hi, sz)) (hsz : ∀ (i : Nat) (c : List DV), es[i]? = some c → c.length = sz)
    (hl : lo.getD 0 = i) (hh : hi.getD es.length = j) (h0 : 0 ≤ i) (h1 : i ≤ j) (h2 : j ≤ es.length) (hes : (es.take j.toNat).drop i.toNat = es2)
    (hK : ∀ a' w' ν', St n ((d, none, .sl es2) :: σ) H C w' a' ν' → wpList P l.toArray Q rest a' w') : wpList P l.toArray Q (o :: rest) a w :=
  s_val hs hw hd hf (e_cut (g := none) hτ hs.f hs.o trivial hp hsz hl hh h0 h1 h2 hes) hK
end
end Go.Proofs.YtjjmoihpjmojiaaDoor.D
