/- Lockstep: the code beside its mirrored function. -/
import Derived.Test.YtjjmoihpjmojiaaDoorD18
set_option linter.unusedVariables false
set_option linter.unusedSimpArgs false
namespace Go.Proofs.YtjjmoihpjmojiaaDoor.D
open Go.RowKit

/-- How a piece of code ends: it goes on, or leaves. -/
inductive Ou (S O : Type) where
  | go (s : S)
  | ret (o : O)
def at_ {α : Type} (l : List α) (i : Int) : Option α := if 0 ≤ i then l[i.toNat]? else none
def lenc {α : Type} (c : α → List DV) (l : List α) : Int := (l.map c).length
theorem lenc_eq {α : Type} (c : α → List DV) (l : List α) : lenc c l = l.length := by simp [lenc]
theorem at_map {α : Type} {l : List α} {i : Int} {x : α} (h : at_ l i = some x) (f : α → List DV) : 0 ≤ i ∧ (l.map f)[i.toNat]? = some (f x) := by
  unfold at_ at h
  split at h
  · rename_i h0
    exact ⟨h0, by rw [List.getElem?_map, h]; rfl⟩
  · cases h
theorem bnd {α β : Type} {x : Option α} {f : α → Option β} {r : β} (h : (x >>= f) = some r) : ∃ y, x = some y ∧ f y = some r := by
  cases x with
  | none => cases h
  | some y => exact ⟨y, rfl, h⟩
/-- A demand. -/
def need (b : Bool) : Option Unit := if b then some () else none
theorem of_need {b : Bool} {u : Unit} (h : need b = some u) : b = true := by
  unfold need at h
  split at h
  · assumption
  · cases h
section
variable {P : Program} {τ : List (Nat × TR)} {n : Nat} {σ σ' : Sl} {H H' : Hp} {C : Cx} {ν ν' : Nm} {w w' : World} {a : Act} {Q : Exit → Act → World → Prop} {A B c : Code}
theorem k_ifH {x : Operand} {R : Type} {b : Bool} {X Y : Option R} {r : R} (hH : (if b then X else Y) = some r) (h : St n σ H C w a ν) (hc : ev σ none x = some (.v (.bool b))) (ht : b = true → X = some r → A.wp P Q a w) (hf : b = false → Y = some r → B.wp P Q a w) : (Code.cond x A B).wp P Q a w := by
  cases b with
  | true => exact k_ifT h hc (ht rfl hH)
  | false => exact k_ifF h hc (hf rfl hH)
theorem t_te {K : Act → World → Prop} {id : Nat} (h : Q (.exit id) a w) : Exit.then K Q (.exit id) a w := h
theorem t_tr {K : Act → World → Prop} (h : Q .ret a w) : Exit.then K Q .ret a w := h
theorem t_br {id : Nat} (h : Q .ret a w) : Exit.inBlock id Q .ret a w := h
theorem t_be {id id' : Nat} (hn : Nat.beq id id' = false) (h : Q (.exit id) a w) : Exit.inBlock id' Q (.exit id) a w := by
  have := Nat.ne_of_beq_eq_false hn
  simpa [Exit.inBlock, this] using h
/-- What holds where a piece ends that goes on. -/
def Cut {S O : Type} (n : Nat) (C : Cx) (σj : S → Sl) (Hj : S → Hp) (out : Ou S O) (Q : Exit → Act → World → Prop) : Exit → Act → World → Prop
  | .normal, a, w => ∃ (s : S) (ν : Nm), out = .go s ∧ St n (σj s) (Hj s) C w a ν
  | e, a, w => Q e a w
/-- What follows a piece, put by. -/
def Kp {S R : Type} (k : S → Option R) (r : R) (o : S) : Prop := k o = some r
theorem Kp.out {S R : Type} {k : S → Option R} {r : R} {o : S} (h : Kp k r o) : k o = some r := h
theorem k_cut {S O R : Type} (h : St n σ H C w a ν) {piece : Option (Ou S O)} {k : Ou S O → Option R} {r : R} (hH : (piece >>= k) = some r) (σj : S → Sl) (Hj : S → Hp)
    (h1 : ∀ out, piece = some out → Kp k r out → A.wp P (Cut n C σj Hj out Q) a w)
    (h2 : ∀ s a w ν, k (.go s) = some r → St n (σj s) (Hj s) C w a ν → Q .normal a w) : A.wp P Q a w := by
  obtain ⟨out, ho, hk⟩ := bnd hH
  refine wp_mono (h1 out ho hk) ?_
  intro e a' w' hq
  cases e with
  | normal =>
    obtain ⟨s, ν, rfl, h⟩ := hq
    exact h2 s a' w' ν hk h
  | exit id => exact hq
  | goto l => exact hq
  | ret => exact hq
  | panic ch => exact hq
  | outgrown => exact hq
/-- The same for a piece that never leaves. -/
def Cut0 {S : Type} (n : Nat) (C : Cx) (σj : S → Sl) (Hj : S → Hp) (out : S) (Q : Exit → Act → World → Prop) : Exit → Act → World → Prop
  | .normal, a, w => ∃ ν : Nm, St n (σj out) (Hj out) C w a ν
  | e, a, w => Q e a w
theorem k_cut0 {S R : Type} (h : St n σ H C w a ν) {piece : Option S} {k : S → Option R} {r : R} (hH : (piece >>= k) = some r) (σj : S → Sl) (Hj : S → Hp)
    (h1 : ∀ out, piece = some out → A.wp P (Cut0 n C σj Hj out Q) a w)
    (h2 : ∀ s a w ν, k s = some r → St n (σj s) (Hj s) C w a ν → Q .normal a w) : A.wp P Q a w := by
  obtain ⟨out, ho, hk⟩ := bnd hH
  refine wp_mono (h1 out ho) ?_
  intro e a' w' hq
  cases e with
  | normal =>
    obtain ⟨ν, h⟩ := hq
    exact h2 out a' w' ν hk h
  | exit id => exact hq
  | goto l => exact hq
  | ret => exact hq
  | panic ch => exact hq
  | outgrown => exact hq
/-- A loop beside its mirrored function. -/
theorem k_loopP {S O : Type} {f : S → Option O} {st : (S → Option O) → S → Option O}
    (pc : ∀ motive : S → O → Prop, (∀ g : S → Option O, (∀ s o, g s = some o → motive s o) → ∀ s o, st g s = some o → motive s o) → ∀ s o, f s = some o → motive s o)
    (σf : S → Sl) (Hf : S → Hp) (K : O → Prop) (Q : O → Exit → Act → World → Prop) {s : S} {o : O} (hs : f s = some o) (hK : K o) (h : St n (σf s) (Hf s) C w a ν)
    (round : ∀ (g : S → Option O) (s : S) (o : O), st g s = some o → K o → ∀ (a : Act) (w : World) (ν : Nm), St n (σf s) (Hf s) C w a ν → c.wp P (Exit.then (fun a w => ∃ (s' : S) (ν' : Nm), g s' = some o ∧ St n (σf s') (Hf s') C w a ν') (Q o)) a w) :
    (Code.loop c).wp P (Q o) a w := by
  intro b k cs
  have key := pc (fun s o => K o → ∀ (a : Act) (w : World) (ν : Nm), St n (σf s) (Hf s) C w a ν → ∃ e a' w', Q o e a' w' ∧ Arrives P (lone (b.at a (.code c :: .inLoop c :: k)) cs w) b k cs e a' w') (fun g hg s o hst hK a w ν h => by
    obtain ⟨e, a₁, w₁, hq, harr⟩ := round g s o hst hK a w ν h b (.inLoop c :: k) cs
    cases e with
    | normal =>
      obtain ⟨s', ν', h1, h2⟩ := hq
      obtain ⟨e₂, a₂, w₂, hq₂, harr₂⟩ := hg s' o h1 hK a₁ w₁ ν' h2
      exact ⟨e₂, a₂, w₂, hq₂, .of_steps (Steps.trans harr (.one step_inLoop)) harr₂⟩
    | exit id => exact ⟨_, a₁, w₁, hq, .pass (x := .inLoop c) rfl (fun _ _ => .inl (by simp)) harr⟩
    | goto l => exact ⟨_, a₁, w₁, hq, .pass (x := .inLoop c) rfl (fun _ _ => .inl (by simp)) harr⟩
    | ret => exact ⟨_, a₁, w₁, hq, .pass (x := .inLoop c) rfl (fun _ _ => .inl (by simp)) harr⟩
    | panic ch => exact ⟨_, a₁, w₁, hq, .pass (x := .inLoop c) rfl (fun _ _ => .inl (by simp)) harr⟩
    | outgrown => exact ⟨_, a₁, w₁, hq, .pass (x := .inLoop c) rfl (fun _ _ => .inl (by simp)) harr⟩) s o hs hK a w ν h
  obtain ⟨e, a', w', hq, harr⟩ := key
  exact ⟨e, a', w', hq, .of_steps (.one step_loop) harr⟩
theorem k_loopC {S S' O R : Type} {f : S → Option (Ou S' O)} {st : (S → Option (Ou S' O)) → S → Option (Ou S' O)}
    (pc : ∀ motive : S → Ou S' O → Prop, (∀ g : S → Option (Ou S' O), (∀ s o, g s = some o → motive s o) → ∀ s o, st g s = some o → motive s o) → ∀ s o, f s = some o → motive s o)
    {id : Nat} {k : Ou S' O → Option R} {r : R} {σj : S' → Sl} {Hj : S' → Hp} (σf : S → Sl) (Hf : S → Hp) {s : S} {o : Ou S' O} (hs : f s = some o) (hK : Kp k r o) (h : St n (σf s) (Hf s) C w a ν)
    (round : ∀ (g : S → Option (Ou S' O)) (s : S) (o : Ou S' O), st g s = some o → Kp k r o → ∀ (a : Act) (w : World) (ν : Nm), St n (σf s) (Hf s) C w a ν → c.wp P (Exit.then (fun a w => ∃ (s' : S) (ν' : Nm), g s' = some o ∧ St n (σf s') (Hf s') C w a ν') (Exit.inBlock id (Cut n C σj Hj o Q))) a w) :
    (Code.loop c).wp P (Exit.inBlock id (Cut n C σj Hj o Q)) a w :=
  k_loopP pc σf Hf (fun o => Kp k r o) (fun o => Exit.inBlock id (Cut n C σj Hj o Q)) hs hK h round
theorem k_loopC0 {S S' : Type} {f : S → Option S'} {st : (S → Option S') → S → Option S'}
    (pc : ∀ motive : S → S' → Prop, (∀ g : S → Option S', (∀ s o, g s = some o → motive s o) → ∀ s o, st g s = some o → motive s o) → ∀ s o, f s = some o → motive s o)
    {id : Nat} {σj : S' → Sl} {Hj : S' → Hp} (σf : S → Sl) (Hf : S → Hp) {s : S} {o : S'} (hs : f s = some o) (h : St n (σf s) (Hf s) C w a ν)
    (round : ∀ (g : S → Option S') (s : S) (o : S'), st g s = some o → ∀ (a : Act) (w : World) (ν : Nm), St n (σf s) (Hf s) C w a ν → c.wp P (Exit.then (fun a w => ∃ (s' : S) (ν' : Nm), g s' = some o ∧ St n (σf s') (Hf s') C w a ν') (Exit.inBlock id (Cut0 n C σj Hj o Q))) a w) :
    (Code.loop c).wp P (Exit.inBlock id (Cut0 n C σj Hj o Q)) a w :=
  k_loopP pc σf Hf (fun _ => True) (fun o => Exit.inBlock id (Cut0 n C σj Hj o Q)) hs trivial h (fun g s o hg _ => round g s o hg)
end
end Go.Proofs.YtjjmoihpjmojiaaDoor.D
