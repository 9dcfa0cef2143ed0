/- Elements of slices; loops. -/
import Derived.Test.YtjjmoihpjmojiaaDoorD11
set_option linter.unusedVariables false
set_option linter.unusedSimpArgs false
namespace Go.Proofs.YtjjmoihpjmojiaaDoor.D
open Go.RowKit

section
variable {P : Program} {τ : List (Nat × TR)} {n : Nat} {σ σ' : Sl} {H H' H0 H1 HL HR Hn : Hp} {C : Cx} {ν ν' : Nm} {ι : Nat → Value} {F F' : Nat → Prop} {w w' W : World} {a : Act} {l rest ops : List Oper} {Q : Exit → Act → World → Prop} {o : Oper} {d : Nat} {A : Nat → Prop} {x r : DV} {g : Gd} {f : FuncId} {ds ds0 : List DV} {fn : Func} {c : Code}
/-- A loop: G tells the slots and the objects, by ghosts; every round lowers the number. -/
theorem k_loop {α : Type} (σf : α → Sl) (Hf : α → Hp) (Inv : Nat → α → Prop) (k0 : Nat) (g0 : α) (h : St n (σf g0) (Hf g0) C w a ν) (hI : Inv k0 g0)
    (round : ∀ (k : Nat) (g : α) (a : Act) (w : World) (ν : Nm), St n (σf g) (Hf g) C w a ν → Inv k g → c.wp P (Exit.then (fun a' w' => ∃ (k' : Nat) (g' : α) (ν' : Nm), k' < k ∧ St n (σf g') (Hf g') C w' a' ν' ∧ Inv k' g') Q) a w) : (Code.loop c).wp P Q a w := by
  refine wp_loop_ghost (fun k a w => ∃ (g : α) (ν : Nm), St n (σf g) (Hf g) C w a ν ∧ Inv k g) k0 ⟨g0, ν, h, hI⟩ ?_
  rintro k a w ⟨g, ν, h, hI⟩
  refine wp_mono (round k g a w ν h hI) ?_
  intro e a' w' hq
  cases e with
  | normal =>
    obtain ⟨k', g', ν', h1, h2, h3⟩ := hq
    exact ⟨k', h1, g', ν', h2, h3⟩
  | exit id => exact hq
  | goto l => exact hq
  | ret => exact hq
  | panic ch => exact hq
  | outgrown => exact hq
def isIdx (τ : List (Nat × TR)) (σ : Sl) (g : Gd) : Op → Option (DV × Int × Nat)
  | .indexAddr t x y => match tl τ t, ev σ g x, ev σ g y with
    | some ⟨.slice e, _, _⟩, some s, some (.v (.int _ i)) => match tl τ e with
      | some r => some (s, i, r.sz)
      | none => none
    | _, _, _ => none
  | _ => none
theorem run_idx {t e : Nat} {r : TR} {ad : Addr} {k : IntKind} {i : Int} {m cap : Nat} (hu : P.underlying t = some (.slice e)) (hr : TR.ok P e r) (h0 : 0 ≤ i) (h1 : i < m) (w : World) :
    (Instr.indexAt t (.slice (some ad) m cap) (.int k i)).run P w = .ok (.pointer (some (ad.add (i.toNat * r.sz)))) w := by
  unfold Instr.indexAt
  have hc : 0 ≤ i ∧ i < (m : Int) := ⟨h0, h1⟩
  simp only [asIntOf, Sem.run_bind, Sem.run_pure, Result.andThen_ok, run_underlying hu, run_sizeOf hr.1, hc, and_self, if_true]
/-- An element of a slice that is read alone. -/
theorem e_idx {es : List (List DV)} {i : Int} {sz : Nat} {cd : List DV} (hτ : Tab P τ) (hF : Fr ν.v (Fz ν H C w) w n σ a) (hO : Ok ν H C w) (hg : Gd.on a g) (hp : isIdx τ σ g o.op = some (.sl es, i, sz)) (hl : cd.length = sz) (h0 : 0 ≤ i) (hi : es[i.toNat]? = some cd) : Eff P o a w ν H C every H (.fat cd 0) := by
  unfold isIdx at hp
  split at hp
  · rename_i t x y ho
    split at hp
    · rename_i e sz0 z s k i' ht hx hy
      split at hp
      · rename_i r hr
        simp only [Option.some.injEq, Prod.mk.injEq] at hp
        obtain ⟨rfl, rfl, rfl⟩ := hp
        have h1 := (hF.eval hx hg).sl_inv
        have hy' := hF.evalv hy hg
        have hlt := (List.getElem?_eq_some_iff.1 hi).1
        have hil : i' < (es.length : Int) := by omega
        generalize hv : a.eval x = v at h1
        cases h1 with
        | nil => simp at hlt
        | e0 => simp at hlt
        | sl ad cap sz1 _ u hB hcap hsz hc hr' =>
          have hsz1 : sz1 = r.sz := by rw [← hl]; exact (hsz _ _ hi).symm
          subst hsz1
          have hrun : (execOp a.eval o).run P w = .ok (.value (.pointer (some (ad.add (i'.toNat * r.sz))))) w := by
            unfold execOp
            simp only [ho]
            refine run_val ?_
            rw [hv, hy']
            exact run_idx ((hτ.get ht).2.2) (hτ.get hr) h0 hil w
          have h2 : DR ν.v (Fz ν H C w) w (.pointer (some ((ad.add (i'.toNat * r.sz)).add 0))) (.fat cd 0) := .fat _ cd 0 (fun j => u i'.toNat j) (by rw [addr_add_block]; exact hB) (fun j d hj => by rw [addr_add_add]; exact hc _ _ _ _ hi hj) (fun j d hj => hr' _ _ _ _ hi hj)
          have h3 : (ad.add (i'.toNat * r.sz)).add 0 = ad.add (i'.toNat * r.sz) := by rw [addr_add_add, Nat.add_zero]
          rw [h3] at h2
          exact .of_run hrun ⟨ν, fun _ _ => rfl, hO, fun k hk => ⟨hk, rfl⟩, h2⟩
      · cases hp
    · cases hp
  · cases hp
theorem s_idx {es : List (List DV)} {i : Int} {sz : Nat} {cd : List DV} (hτ : Tab P τ) (h : St n σ H C w a ν) (hw : Region.wanted o (yielded l.toArray a.tmps) = true) (hd : o.dst = some d) (hf : free n d σ = true) (hp : isIdx τ σ none o.op = some (.sl es, i, sz)) (hl : cd.length = sz) (h0 : 0 ≤ i) (hi : es[i.toNat]? = some cd)
    (hK : ∀ a' w' ν', St n ((d, none, .fat cd 0) :: σ) H C w' a' ν' → wpList P l.toArray Q rest a' w') : wpList P l.toArray Q (o :: rest) a w :=
  s_val h hw hd hf (e_idx (g := none) hτ h.f h.o trivial hp hl h0 hi) hK
end
end Go.Proofs.YtjjmoihpjmojiaaDoor.D
