/- Regions that draw their order: every operation once, whatever came up before it. -/
import Derived.Test.YtjjmoihpjmojiaaDoorD22
import Derived.Orders
set_option linter.unusedVariables false
set_option linter.unusedSimpArgs false
namespace Go.Proofs.YtjjmoihpjmojiaaDoor.D
open Go.RowKit

/-- What an operation leaves: its slot, the names it uses up, what it makes. -/
structure OpF where
  slot : Option (Nat × Gd × DV)
  con : List Nat
  new : Hp
/-- The slots of some operations. -/
def slotL (fs : List OpF) (σ : Sl) : List Nat → Sl
  | [] => σ
  | i :: r => match fs[i]? with
    | some ⟨some s, _, _⟩ => s :: slotL fs σ r
    | _ => slotL fs σ r
def newL (fs : List OpF) (H : Hp) : List Nat → Hp
  | [] => H
  | i :: r => match fs[i]? with
    | some f => f.new ++ newL fs H r
    | none => newL fs H r
def inN (r : Nat) (l : List Nat) : Bool := l.any fun q => Nat.beq q r
def conAll (fs : List OpF) (r : Nat) : Bool := fs.any fun f => inN r f.con
/-- What is there at the end. -/
def liveL (fs : List OpF) (H : Hp) : Hp := (newL fs H (List.range fs.length)).filter fun e => !conAll fs e.1
/-- What an operation needs: entries by name, of H or of operations ahead of it. -/
def needL (fs : List OpF) (H : Hp) (anc : List Nat) (rs : List Nat) : Hp := (newL fs H anc).filter fun e => inN e.1 rs
theorem inN_mem {r : Nat} {l : List Nat} : inN r l = true ↔ r ∈ l := by
  unfold inN
  rw [List.any_eq_true]
  constructor
  · rintro ⟨q, h1, h2⟩; rw [← Nat.eq_of_beq_eq_true h2]; exact h1
  · intro h; exact ⟨r, h, Nat.beq_refl r⟩
theorem mem_newL {fs : List OpF} {H : Hp} {e : Nat × En} : ∀ {l : List Nat}, e ∈ newL fs H l ↔ (e ∈ H ∨ ∃ j ∈ l, ∃ f : OpF, fs[j]? = some f ∧ e ∈ f.new)
  | [] => by simp [newL]
  | i :: r => by
    unfold newL
    have ih := mem_newL (fs := fs) (H := H) (e := e) (l := r)
    cases hf : fs[i]? with
    | none =>
      simp only [ih, List.mem_cons, exists_eq_or_imp, hf]
      simp
    | some f =>
      simp only [List.mem_append, ih, List.mem_cons, exists_eq_or_imp, hf, Option.some.injEq, exists_eq_left']
      constructor
      · rintro (h | h | h)
        · exact .inr (.inl h)
        · exact .inl h
        · exact .inr (.inr h)
      · rintro (h | h | h)
        · exact .inr (.inl h)
        · exact .inl h
        · exact .inr (.inr h)
section
variable {P : Program} {τ : List (Nat × TR)} {n : Nat} {σ σ' σ0 : Sl} {H H' H0 : Hp} {C : Cx} {ν ν' : Nm} {ι : Nat → Value} {F F' : Nat → Prop} {w w' W : World} {a : Act} {l rest ops : List Oper} {Q : Exit → Act → World → Prop} {o : Oper} {d : Nat} {A : Nat → Prop} {x : DV} {g : Gd} {fs : List OpF} {f : OpF} {anc : List (List Nat)}
theorem mem_liveL {e : Nat × En} : e ∈ liveL fs H ↔ (e ∈ H ∨ ∃ (j : Nat) (f : OpF), fs[j]? = some f ∧ e ∈ f.new) ∧ ∀ (j : Nat) (f : OpF), fs[j]? = some f → e.1 ∉ f.con := by
  unfold liveL
  rw [List.mem_filter, mem_newL]
  have h1 : (!conAll fs e.1) = true ↔ ∀ (j : Nat) (f : OpF), fs[j]? = some f → e.1 ∉ f.con := by
    unfold conAll
    rw [Bool.not_eq_true', List.any_eq_false]
    constructor
    · intro h j f hf hm
      exact h f (List.mem_of_getElem? hf) (inN_mem.2 hm)
    · intro h f hf hm
      obtain ⟨j, hj⟩ := List.getElem?_of_mem hf
      exact h j f hj (inN_mem.1 hm)
  rw [h1]
  constructor
  · rintro ⟨h | ⟨j, _, f, h2, h3⟩, h4⟩
    · exact ⟨.inl h, h4⟩
    · exact ⟨.inr ⟨j, f, h2, h3⟩, h4⟩
  · rintro ⟨h | ⟨j, f, h2, h3⟩, h4⟩
    · exact ⟨.inl h, h4⟩
    · exact ⟨.inr ⟨j, List.mem_range.2 (List.getElem?_eq_some_iff.1 h2).1, f, h2, h3⟩, h4⟩
theorem Ok.same (h : Ok ν H C w) (hm : ∀ e, e ∈ H ↔ e ∈ H') (hn : (H'.map (·.1)).Nodup) : Ok ν H' C w ∧ (∀ k, Fz ν H C w k → Fz ν H' C w k ∧ w.heap[k]? = w.heap[k]?) :=
  h.step (A := fun _ => True) (fun _ _ => rfl) (fun _ _ => trivial) rfl rfl rfl (Nat.le_refl _) (fun _ _ _ => rfl) hn (fun e he e' he' => h.ap e ((hm e).2 he) e' ((hm e').2 he')) (fun e he k hk => ⟨h.bnd e ((hm e).2 he) k hk, .inr ⟨e, (hm e).2 he, hk⟩⟩)
    (fun F hF _ e he => (h.ent e ((hm e).2 he)).mono hF (fun _ => True) (fun _ _ => rfl) (fun _ hs => absurd trivial hs) trivial rfl (fun _ _ => rfl))
/-- One slot more, or two lists of slots. -/
theorem Fr.cons {s : Nat × Gd × DV} (h1 : Fr ι F w n [s] a) (h2 : Fr ι F w n σ a) : Fr ι F w n (s :: σ) a := by
  refine ⟨h2.df, h2.sz, fun t g d hl hg => ?_⟩
  unfold lk at hl
  cases hb : Nat.beq s.1 t with
  | true =>
    rw [hb] at hl
    refine h1.at_ t g d ?_ hg
    unfold lk
    rw [hb]
    exact hl
  | false =>
    rw [hb] at hl
    exact h2.at_ t g d hl hg
/-- A slot that none of these is. -/
def apart (d : Nat) (σ : Sl) : Bool := σ.all fun e => !Nat.beq e.1 d && match e.2.1 with
  | none => true
  | some (s, _) => !Nat.beq s d
theorem Fr.beside (h : Fr ι F w n σ a) (hd : apart d σ = true) (v : Value) : Fr ι F w n σ (a.put (some d) v) := by
  refine ⟨h.df, by simp [Act.put, h.sz], fun t g x hl hg => ?_⟩
  have h1 := List.all_eq_true.1 hd _ (lk_mem hl)
  rw [Bool.and_eq_true] at h1
  have hne : t ≠ d := by
    have := h1.1
    simp only [Bool.not_eq_true'] at this
    exact Nat.ne_of_beq_eq_false this
  have hg' : Gd.on a g := by
    cases g with
    | none => trivial
    | some y =>
      obtain ⟨s, u⟩ := y
      have h2 := h1.2
      simp only [Bool.not_eq_true'] at h2
      have := Nat.ne_of_beq_eq_false h2
      simp only [Gd.on, Act.put] at hg ⊢
      rwa [Array.getElem?_setIfInBounds_ne (Ne.symm this)] at hg
  obtain ⟨v', h2, h3⟩ := h.at_ t g x hl hg'
  refine ⟨v', ?_, h3⟩
  simp only [Act.put]
  rw [Array.getElem?_setIfInBounds_ne (Ne.symm hne)]
  exact h2
theorem Fr.besideO (h : Fr ι F w n σ a) {od : Option Nat} (hd : ∀ d, od = some d → apart d σ = true) (v : Value) : Fr ι F w n σ (a.put od v) := by
  cases od with
  | none => exact h
  | some d => exact h.beside (hd d rfl) v
/-- What an operation does, once those ahead of it have come up. -/
def OpOk (P : Program) (l : List Oper) (n : Nat) (C : Cx) (σ : Sl) (Hn : Hp) (o : Oper) (f : OpF) : Prop :=
  ∀ (H : Hp) (w : World) (a : Act) (ν : Nm), Ok ν H C w → (∀ e ∈ Hn, e ∈ H) → (∀ r ∈ rids f.new, fresh C H r = true) → Fr ν.v (Fz ν H C w) w n σ a →
    (Region.wanted o (yielded l.toArray a.tmps) = true → ∃ H' x, (∀ e, e ∈ H' ↔ e ∈ f.new ∨ (e ∈ H ∧ e.1 ∉ f.con)) ∧ Eff P o a w ν H C (fun s => s ∉ rids f.new) H' x ∧ ∀ s, f.slot = some s → s.2.2 = x) ∧
    (Region.wanted o (yielded l.toArray a.tmps) = false → f.con = [] ∧ f.new = [] ∧ ∀ s, f.slot = some s → ¬ Gd.on a s.2.1)
def edgeB (l : List Oper) (i j : Nat) : Bool := match l[i]? with
  | some o => o.after.toList.any fun e => Region.binds .any e && Nat.beq e.on j
  | none => false
/-- i waits for all of the list. -/
def ancOk (l : List Oper) (ps : List (List Nat × List Nat)) (i : Nat) (anc : List Nat) : Bool := anc.all fun j => edgeB l i j || (List.range i).any fun k => edgeB l i k && (match ps[k]? with
  | some p => inN j p.1
  | none => false)
def dstAt (l : List Oper) (i : Nat) : Option Nat := match l[i]? with
  | some o => o.dst
  | none => none
def inAnc (ps : List (List Nat × List Nat)) (k j : Nat) : Bool := match ps[k]? with
  | some p => inN j p.1
  | none => false
/-- Which slots at first are still what they were, when operation i comes up. -/
def dstB (l : List Oper) (k t : Nat) : Bool := match dstAt l k with
  | some d => Nat.beq d t
  | none => false
def selS (l : List Oper) (b m : Nat) (ps : List (List Nat × List Nat)) (i : Nat) (σ : Sl) : Sl := σ.filter fun e => (List.range m).all fun k => Nat.blt k b || (Nat.beq k i || inAnc ps k i || !dstB l k e.1)
def endS (l : List Oper) (b m : Nat) (σ : Sl) : Sl := σ.filter fun e => (List.range m).all fun k => Nat.blt k b || !dstB l k e.1
/-- All of them, with what each needs. -/
def OpsOk (P : Program) (l : List Oper) (n : Nat) (C : Cx) (b : Nat) (fs : List OpF) (σ0 : Sl) (H0 : Hp) (pa : List (List Nat × List Nat)) : Nat → List Oper → List OpF → List (List Nat × List Nat) → Prop
  | i, o :: os, f :: r, p :: ps => OpOk P l n C (slotL fs (selS l b fs.length pa i σ0) p.1) (needL fs H0 p.1 p.2) o f ∧ OpsOk P l n C b fs σ0 H0 pa (i + 1) os r ps
  | _, _, [], [] => True
  | _, _, _, _ => False
theorem OpsOk.at_ {b : Nat} {pa : List (List Nat × List Nat)} : ∀ {k : Nat} {os : List Oper} {r : List OpF} {ps : List (List Nat × List Nat)}, OpsOk P l n C b fs σ0 H0 pa k os r ps → ∀ (i : Nat) (f : OpF), r[i]? = some f → ∃ o p, os[i]? = some o ∧ ps[i]? = some p ∧ OpOk P l n C (slotL fs (selS l b fs.length pa (k + i) σ0) p.1) (needL fs H0 p.1 p.2) o f
  | k, o :: os, f :: r, p :: ps, h, 0, f', hf => by
    simp only [List.getElem?_cons_zero, Option.some.injEq] at hf
    subst hf
    exact ⟨o, p, rfl, rfl, h.1⟩
  | k, o :: os, f :: r, p :: ps, h, i + 1, f', hf => by
    obtain ⟨o', p', h1, h2, h3⟩ := h.2.at_ i f' (by simpa using hf)
    rw [show k + 1 + i = k + (i + 1) from by omega] at h3
    exact ⟨o', p', by simpa using h1, by simpa using h2, h3⟩
  | _, _, [], _, _, i, f', hf => by simp at hf
  | _, [], _ :: _, _, h, _, _, _ => h.elim
  | _, _ :: _, _ :: _, [], h, _, _, _ => h.elim
/-- All that is asked of the text. -/
def chkOp (l : List Oper) (n : Nat) (C : Cx) (fs : List OpF) (σ0 : Sl) (H0 : Hp) (ps : List (List Nat × List Nat)) (i : Nat) (o : Oper) (f : OpF) (p : List Nat × List Nat) : Bool :=
  ancOk l ps i p.1 &&
  (match f.slot with
    | some s => (match o.dst with
      | some d => Nat.beq s.1 d && Nat.blt d n
      | none => false) && (match s.2.1 with
      | some (t, _) => !Nat.beq t s.1
      | none => true)
    | none => true) &&
  (match o.dst with
    | some d => (σ0.all fun e => match e.2.1 with
        | none => true
        | some (t, _) => !Nat.beq t d) && (List.range fs.length).all fun j => Nat.beq j i || (inAnc ps j i || match fs[j]? with
      | some ⟨some s, _, _⟩ => apart d [s]
      | _ => true)
    | none => true) &&
  ((rids f.new).all fun r => fresh C H0 r && !inN r f.con && (σ0.all fun e => nr r e.2.2) && (List.range fs.length).all fun j => Nat.beq j i || (match fs[j]? with
    | some fj => (inAnc ps j i || ((fj.new.all fun e => enr r e.2) && !inN r fj.con && match fj.slot with
      | some s => nr r s.2.2
      | none => true)) && (fj.new.all fun e => !Nat.beq e.1 r)
    | none => true)) &&
  (p.2.all fun r => (List.range fs.length).all fun k => Nat.beq k i || match fs[k]? with
    | some fk => !inN r fk.con || inAnc ps k i
    | none => true)
def chkAt (l : List Oper) (n : Nat) (C : Cx) (fs : List OpF) (σ0 : Sl) (H0 : Hp) (ps : List (List Nat × List Nat)) (i : Nat) : Bool := match l[i]?, fs[i]?, ps[i]? with
  | some o, some f, some p => chkOp l n C fs σ0 H0 ps i o f p
  | _, _, _ => false
def backB (l : List Oper) (i : Nat) : Bool := match l[i]? with
  | some o => o.after.toList.all fun e => !Region.binds .any e || Nat.blt e.on i
  | none => false
def chkAll (l : List Oper) (n : Nat) (C : Cx) (b : Nat) (fs : List OpF) (σ0 : Sl) (H0 : Hp) (ps : List (List Nat × List Nat)) : Bool :=
  Nat.ble fs.length l.length && nodupB (σ0.map (·.1)) && ((List.range l.length).all fun i => Nat.blt i b || backB l i) && ((List.range fs.length).all fun i => Nat.blt i b || chkAt l n C fs σ0 H0 ps i) && nodupB (rids (liveL fs H0)) &&
  ((List.range l.length).all fun i => Nat.blt i fs.length || ((List.range i).any fun k => !Nat.blt k fs.length && edgeB l i k) || (List.range fs.length).all fun j => Nat.blt j b || edgeB l i j || (List.range fs.length).any fun k => edgeB l i k && inAnc ps k j)
/-- What holds while the operations come up. -/
structure Inv (l : List Oper) (n : Nat) (C : Cx) (b : Nat) (fs : List OpF) (σ0 : Sl) (H0 : Hp) (ps : List (List Nat × List Nat)) (listed : Array Bool) (a : Act) (w : World) (ν : Nm) (H : Hp) : Prop where
  mem : ∀ e, e ∈ H ↔ (e ∈ H0 ∨ ∃ (j : Nat) (f : OpF), listed.getD j false = true ∧ fs[j]? = some f ∧ e ∈ f.new) ∧ ∀ (j : Nat) (f : OpF), listed.getD j false = true → fs[j]? = some f → e.1 ∉ f.con
  ok : Ok ν H C w
  df : a.defers = []
  sz : a.tmps.size = n
  fr : ∀ e ∈ σ0, (∀ k, b ≤ k → listed.getD k false = true → dstB l k e.1 = false) → Fr ν.v (Fz ν H C w) w n [e] a
  sl : ∀ (j : Nat) (f : OpF) s, listed.getD j false = true → fs[j]? = some f → f.slot = some s → Fr ν.v (Fz ν H C w) w n [s] a
  cl : ∀ i j, listed.getD i false = true → inAnc ps i j = true → listed.getD j false = true
variable {ps : List (List Nat × List Nat)} {listed : Array Bool} {b : Nat}
theorem Inv.sel {σ : Sl} (h : Inv l n C b fs σ0 H0 ps listed a w ν H) : (∀ e ∈ σ, e ∈ σ0 ∧ ∀ k, b ≤ k → listed.getD k false = true → dstB l k e.1 = false) → Fr ν.v (Fz ν H C w) w n σ a := by
  induction σ with
  | nil => intro _; exact ⟨h.df, h.sz, fun t g d hl => by cases hl⟩
  | cons e σ ih =>
    intro hs
    obtain ⟨h1, h2⟩ := hs e List.mem_cons_self
    exact (h.fr e h1 h2).cons (ih (fun e' he' => hs e' (List.mem_cons_of_mem _ he')))
theorem Inv.slots {q : List Nat} {σ : Sl} (h : Inv l n C b fs σ0 H0 ps listed a w ν H) (hσ : ∀ e ∈ σ, e ∈ σ0 ∧ ∀ k, b ≤ k → listed.getD k false = true → dstB l k e.1 = false) : (∀ j ∈ q, listed.getD j false = true) → Fr ν.v (Fz ν H C w) w n (slotL fs σ q) a := by
  induction q with
  | nil => intro _; exact h.sel hσ
  | cons i r ih =>
    intro hq
    have ih' := ih (fun j hj => hq j (List.mem_cons_of_mem _ hj))
    unfold slotL
    split
    · rename_i s c nw hf
      exact (h.sl i _ s (hq i List.mem_cons_self) hf rfl).cons ih'
    · exact ih'
theorem fresh_mk {r : Nat} (h1 : ∀ e ∈ H, e.1 ≠ r ∧ enr r e.2 = true) (h2 : ∀ p ∈ C.L, p.1 ≠ r) : fresh C H r = true := by
  unfold fresh
  rw [Bool.and_eq_true]
  refine ⟨List.all_eq_true.2 fun e he => ?_, List.all_eq_true.2 fun p hp => ?_⟩
  · rw [Bool.and_eq_true]
    exact ⟨by rw [beq_ne (h1 e he).1]; rfl, (h1 e he).2⟩
  · rw [beq_ne (h2 p hp)]; rfl
theorem nb {i j : Nat} (h : (!Nat.beq i j) = true) : i ≠ j := by
  simp only [Bool.not_eq_true'] at h
  exact Nat.ne_of_beq_eq_false h
theorem all_range {m : Nat} {p : Nat → Bool} (h : (List.range m).all p = true) {j : Nat} (hj : j < m) : p j = true := List.all_eq_true.1 h j (List.mem_range.2 hj)
theorem beq_or {i j : Nat} {b : Bool} (h : (Nat.beq j i || b) = true) (hne : j ≠ i) : b = true := by
  rw [beq_ne hne] at h
  exact h
theorem getD_listed {i j : Nat} (hi : i < listed.size) : (listed.setIfInBounds i true).getD j false = true ↔ (j = i ∨ listed.getD j false = true) := by
  by_cases hij : j = i
  · subst hij
    simp [hi]
  · simp only [hij, false_or]
    rw [getD_set_ne false (Ne.symm hij)]
theorem not_in {r : Nat} {q : List Nat} (h : (!inN r q) = true) : r ∉ q := fun hm => by rw [inN_mem.2 hm] at h; cases h
/-- One operation comes up. -/
theorem Inv.step {i : Nat} {p : List Nat × List Nat} (hbi : b ≤ i) (hlo : l[i]? = some o) (hfi : fs[i]? = some f) (hpi : ps[i]? = some p) (hc : chkOp l n C fs σ0 H0 ps i o f p = true) (ho : OpOk P l n C (slotL fs (selS l b fs.length ps i σ0) p.1) (needL fs H0 p.1 p.2) o f) (hlen : ∀ k, listed.getD k false = true → k < fs.length)
    (h : Inv l n C b fs σ0 H0 ps listed a w ν H) (hi : i < listed.size) (hun : listed.getD i false = false) (hr : ∀ j, edgeB l i j = true → listed.getD j false = true)
    {K : Act → World → Prop} (hK : ∀ a' w' ν' H', Inv l n C b fs σ0 H0 ps (listed.setIfInBounds i true) a' w' ν' H' → K a' w') : wpOp P l.toArray Q i K a w := by
  unfold chkOp at hc
  simp only [Bool.and_eq_true] at hc
  obtain ⟨⟨⟨⟨hc2, hc4⟩, hc5⟩, hc6⟩, hc7⟩ := hc
  have hanc : ∀ j ∈ p.1, listed.getD j false = true := by
    intro j hj
    unfold ancOk at hc2
    have h1 := List.all_eq_true.1 hc2 j hj
    rw [Bool.or_eq_true] at h1
    rcases h1 with h1 | h1
    · exact hr j h1
    · rw [List.any_eq_true] at h1
      obtain ⟨k, hk, h2⟩ := h1
      rw [Bool.and_eq_true] at h2
      exact h.cl k j (hr k h2.1) h2.2
  have hno : ∀ j, listed.getD j false = true → j ≠ i := fun j hj e => by rw [e, hun] at hj; cases hj
  have hlt : ∀ {j : Nat} {fj : OpF}, fs[j]? = some fj → j < fs.length := fun hj => (List.getElem?_eq_some_iff.1 hj).1
  have hnanc : ∀ j, listed.getD j false = true → ¬ inAnc ps j i = true := fun j hj ha => by
    have := h.cl j i hj ha
    rw [hun] at this; cases this
  have hsel : ∀ e ∈ selS l b fs.length ps i σ0, e ∈ σ0 ∧ ∀ k, b ≤ k → listed.getD k false = true → dstB l k e.1 = false := by
    intro e he
    unfold selS at he
    rw [List.mem_filter] at he
    refine ⟨he.1, fun k hbk hk => ?_⟩
    have h1 := all_range he.2 (hlen k hk)
    simp only [Bool.or_eq_true] at h1
    rcases h1 with h0 | (h1 | h1) | h1
    · rw [Nat.blt_eq] at h0; omega
    · exact absurd (Nat.eq_of_beq_eq_true h1) (hno k hk)
    · exact absurd h1 (hnanc k hk)
    · simpa using h1
  have hF := h.slots hsel hanc
  have hneed : ∀ e ∈ needL fs H0 p.1 p.2, e ∈ H := by
    intro e he
    unfold needL at he
    rw [List.mem_filter, mem_newL] at he
    refine (h.mem e).2 ⟨?_, fun k fk hk hfk hm => ?_⟩
    · rcases he.1 with h1 | ⟨j, hj, fj, h1, h2⟩
      · exact .inl h1
      · exact .inr ⟨j, fj, hanc j hj, h1, h2⟩
    · have h1 := beq_or (all_range (List.all_eq_true.1 hc7 e.1 (inN_mem.1 he.2)) (hlt hfk)) (hno k hk)
      simp only [hfk, Bool.or_eq_true] at h1
      rcases h1 with h1 | h1
      · exact not_in h1 hm
      · exact hnanc k hk h1
  have hnew : ∀ r ∈ rids f.new, fresh C H0 r = true ∧ r ∉ f.con ∧ (∀ e ∈ σ0, nr r e.2.2 = true) ∧ ∀ j fj, j ≠ i → fs[j]? = some fj → (inAnc ps j i = true ∨ ((∀ e ∈ fj.new, enr r e.2 = true) ∧ r ∉ fj.con ∧ ∀ s, fj.slot = some s → nr r s.2.2 = true)) ∧ ∀ e ∈ fj.new, e.1 ≠ r := by
    intro r hrm
    have h1 := List.all_eq_true.1 hc6 r hrm
    simp only [Bool.and_eq_true] at h1
    obtain ⟨⟨⟨h1, h2⟩, h3⟩, h4⟩ := h1
    refine ⟨h1, not_in h2, fun e he => List.all_eq_true.1 h3 e he, fun j fj hj hfj => ?_⟩
    have h5 := beq_or (all_range h4 (hlt hfj)) hj
    simp only [hfj, Bool.and_eq_true, Bool.or_eq_true] at h5
    refine ⟨?_, fun e he => nb (List.all_eq_true.1 h5.2 e he)⟩
    rcases h5.1 with h6 | ⟨⟨h6, h7⟩, h8⟩
    · exact .inl h6
    · refine .inr ⟨fun e he => List.all_eq_true.1 h6 e he, not_in h7, fun s hs => ?_⟩
      simp only [hs] at h8
      exact h8
  have hfresh : ∀ r ∈ rids f.new, fresh C H r = true := by
    intro r hrm
    obtain ⟨h1, _, _, h4⟩ := hnew r hrm
    refine fresh_mk (fun e he => ?_) (fresh_L h1)
    rcases ((h.mem e).1 he).1 with h5 | ⟨j, fj, h5, h6, h7⟩
    · exact fresh_H h1 e h5
    · obtain ⟨h8, h9⟩ := h4 j fj (hno j h5) h6
      refine ⟨h9 e h7, ?_⟩
      rcases h8 with h8 | h8
      · exact absurd h8 (hnanc j h5)
      · exact h8.1 e h7
  obtain ⟨hyes, hnot⟩ := ho H w a ν h.ok hneed hfresh hF
  have hcl : ∀ k j, (listed.setIfInBounds i true).getD k false = true → inAnc ps k j = true → (listed.setIfInBounds i true).getD j false = true := by
    intro k j hk hj
    rw [getD_listed hi] at hk ⊢
    rcases hk with rfl | hk
    · right
      unfold inAnc at hj
      simp only [hpi] at hj
      exact hanc j (inN_mem.1 hj)
    · exact .inr (h.cl k j hk hj)
  have hap : ∀ d, o.dst = some d → (∀ e ∈ σ0, (!Nat.beq e.1 d) = true → apart d [e] = true) ∧ ∀ j fj s, listed.getD j false = true → fs[j]? = some fj → fj.slot = some s → apart d [s] = true := by
    intro d hd
    simp only [hd, Bool.and_eq_true] at hc5
    refine ⟨fun e he hne => ?_, fun j fj s hjl hfj hs => ?_⟩
    · have h1 := List.all_eq_true.1 hc5.1 e he
      unfold apart
      simp only [List.all_cons, List.all_nil, Bool.and_true, hne, Bool.true_and]
      exact h1
    have h1 := beq_or (all_range hc5.2 (hlt hfj)) (hno j hjl)
    obtain ⟨sl, c, nw⟩ := fj
    simp only at hs
    subst hs
    simp only [hfj, Bool.or_eq_true] at h1
    exact h1.resolve_left (hnanc j hjl)
  have hdst : ∀ s, f.slot = some s → o.dst = some s.1 ∧ free n s.1 [] = true ∧ ∀ t u, s.2.1 = some (t, u) → t ≠ s.1 := by
    intro s hs
    simp only [hs, Bool.and_eq_true] at hc4
    obtain ⟨h1, h2⟩ := hc4
    cases hd : o.dst with
    | none => simp [hd] at h1
    | some d =>
      simp only [hd, Bool.and_eq_true] at h1
      have h3 := Nat.eq_of_beq_eq_true h1.1
      refine ⟨by rw [h3], by unfold free; rw [h3, h1.2]; rfl, fun t u ht => ?_⟩
      simp only [ht] at h2
      exact nb h2
  unfold wpOp
  have hlo' : l.toArray[i]? = some o := by simpa using hlo
  simp only [hlo']
  cases hw : Region.wanted o (yielded l.toArray a.tmps) with
  | true =>
    obtain ⟨H', x, hm, hE, hs⟩ := hyes hw
    simp only [if_true]
    refine .inl (hE K Q (fun v w' hv => ?_))
    obtain ⟨ν', hv⟩ := hv
    refine hK _ _ ν' H' ⟨fun e => ?_, hv.o, ?_, ?_, fun e he hne => ?_, fun j fj s hj hfj hs' => ?_, hcl⟩
    · rw [hm e]
      constructor
      · rintro (h1 | ⟨h1, h2⟩)
        · have hre : e.1 ∈ rids f.new := List.mem_map_of_mem h1
          refine ⟨.inr ⟨i, f, (getD_listed hi).2 (.inl rfl), hfi, h1⟩, fun j fj hj hfj hcon => ?_⟩
          obtain ⟨_, h3, _, h4⟩ := hnew e.1 hre
          rcases (getD_listed hi).1 hj with rfl | hj
          · rw [hfi] at hfj
            injection hfj with hfj
            subst hfj
            exact h3 hcon
          · rcases (h4 j fj (hno j hj) hfj).1 with h5 | h5
            · exact hnanc j hj h5
            · exact h5.2.1 hcon
        · obtain ⟨h3, h4⟩ := (h.mem e).1 h1
          refine ⟨?_, fun j fj hj hfj hcon => ?_⟩
          · rcases h3 with h3 | ⟨j, fj, h5, h6, h7⟩
            · exact .inl h3
            · exact .inr ⟨j, fj, (getD_listed hi).2 (.inr h5), h6, h7⟩
          · rcases (getD_listed hi).1 hj with rfl | hj
            · rw [hfi] at hfj
              injection hfj with hfj
              subst hfj
              exact h2 hcon
            · exact h4 j fj hj hfj hcon
      · rintro ⟨h1, h2⟩
        have h3 : e.1 ∉ f.con := h2 i f ((getD_listed hi).2 (.inl rfl)) hfi
        have h4 : ∀ j fj, listed.getD j false = true → fs[j]? = some fj → e.1 ∉ fj.con := fun j fj hj hfj => h2 j fj ((getD_listed hi).2 (.inr hj)) hfj
        rcases h1 with h1 | ⟨j, fj, h5, h6, h7⟩
        · exact .inr ⟨(h.mem e).2 ⟨.inl h1, h4⟩, h3⟩
        · rcases (getD_listed hi).1 h5 with rfl | h5
          · rw [hfi] at h6
            injection h6 with h6
            subst h6
            exact .inl h7
          · exact .inr ⟨(h.mem e).2 ⟨.inr ⟨j, fj, h5, h6, h7⟩, h4⟩, h3⟩
    · have hdf := h.df
      cases hod : o.dst <;> simp [Act.put, hdf]
    · have hsz := h.sz
      cases hod : o.dst <;> simp [Act.put, hsz]
    · refine ((h.fr e he (fun k hbk hk => hne k hbk ((getD_listed hi).2 (.inr hk)))).mono hv.F (fun s => s ∉ rids f.new) hv.same (fun t g d hl => ⟨d, hl, .inl ⟨rfl, fun s hs => ?_⟩⟩)).besideO (fun d hd => (hap d hd).1 e he ?_) v
      · have h2 := lk_mem hl
        rw [List.mem_singleton] at h2
        have h3 := (hnew s (Classical.not_not.1 hs)).2.2.1 e he
        rw [← h2] at h3
        exact h3
      · have h2 := hne i hbi ((getD_listed hi).2 (.inl rfl))
        unfold dstB dstAt at h2
        simp only [hlo, hd] at h2
        rw [beq_ne (Ne.symm (Nat.ne_of_beq_eq_false h2))]
        rfl
    · rcases (getD_listed hi).1 hj with rfl | hj
      · rw [hfi] at hfj
        injection hfj with hfj
        subst hfj
        obtain ⟨h1, h2, h3⟩ := hdst s hs'
        have h4 := hs s hs'
        rw [h1]
        have h5 : Fr ν'.v (Fz ν' H' C w') w' n [] a := ⟨h.df, h.sz, fun t g d hl => by cases hl⟩
        exact h5.put h2 s.2.1 s.2.2 v h3 (fun _ => by rw [h4]; exact hv.v)
      · refine ((h.sl j fj s hj hfj hs').mono hv.F (fun s => s ∉ rids f.new) hv.same (fun t g d hl => ⟨d, hl, .inl ⟨rfl, fun r hr => ?_⟩⟩)).besideO (fun d hd => (hap d hd).2 j fj s hj hfj hs') v
        rcases ((hnew r (Classical.not_not.1 hr)).2.2.2 j fj (hno j hj) hfj).1 with h1 | h1
        · exact absurd h1 (hnanc j hj)
        · have h2 := lk_mem hl
          rw [List.mem_singleton] at h2
          have h3 := h1.2.2 s hs'
          rw [← h2] at h3
          exact h3
  | false =>
    obtain ⟨h1, h2, h3⟩ := hnot hw
    simp only [Bool.false_eq_true, if_false]
    refine hK _ _ ν H ⟨fun e => ?_, h.ok, ?_, ?_, fun e he hne => (h.fr e he (fun k hbk hk => hne k hbk ((getD_listed hi).2 (.inr hk)))).besideO (fun d hd => (hap d hd).1 e he ?_) undef, fun j fj s hj hfj hs' => ?_, hcl⟩
    · rw [h.mem e]
      constructor
      · rintro ⟨h4, h5⟩
        refine ⟨?_, fun j fj hj hfj hcon => ?_⟩
        · rcases h4 with h4 | ⟨j, fj, h6, h7, h8⟩
          · exact .inl h4
          · exact .inr ⟨j, fj, (getD_listed hi).2 (.inr h6), h7, h8⟩
        · rcases (getD_listed hi).1 hj with rfl | hj
          · rw [hfi] at hfj
            injection hfj with hfj
            subst hfj
            rw [h1] at hcon
            cases hcon
          · exact h5 j fj hj hfj hcon
      · rintro ⟨h4, h5⟩
        refine ⟨?_, fun j fj hj hfj => h5 j fj ((getD_listed hi).2 (.inr hj)) hfj⟩
        rcases h4 with h4 | ⟨j, fj, h6, h7, h8⟩
        · exact .inl h4
        · rcases (getD_listed hi).1 h6 with rfl | h6
          · rw [hfi] at h7
            injection h7 with h7
            subst h7
            rw [h2] at h8
            cases h8
          · exact .inr ⟨j, fj, h6, h7, h8⟩
    · have hdf := h.df
      cases hod : o.dst <;> simp [Act.put, hdf]
    · have hsz := h.sz
      cases hod : o.dst <;> simp [Act.put, hsz]
    · have h4 := hne i hbi ((getD_listed hi).2 (.inl rfl))
      unfold dstB dstAt at h4
      simp only [hlo, hd] at h4
      rw [beq_ne (Ne.symm (Nat.ne_of_beq_eq_false h4))]
      rfl
    · rcases (getD_listed hi).1 hj with rfl | hj
      · rw [hfi] at hfj
        injection hfj with hfj
        subst hfj
        obtain ⟨h4, h5, h6⟩ := hdst s hs'
        rw [h4]
        have h7 : Fr ν.v (Fz ν H C w) w n [] a := ⟨h.df, h.sz, fun t g d hl => by cases hl⟩
        exact h7.put h5 s.2.1 s.2.2 undef h6 (fun hon => absurd hon (h3 s hs'))
      · exact (h.sl j fj s hj hfj hs').besideO (fun d hd => (hap d hd).2 j fj s hj hfj hs') undef
theorem edge_iff {i j : Nat} (hlo : l[i]? = some o) : edgeB l i j = true ↔ ∃ e ∈ o.after, Region.binds .any e = true ∧ e.on = j := by
  unfold edgeB
  simp only [hlo]
  rw [List.any_eq_true]
  constructor
  · rintro ⟨e, he, h⟩
    rw [Bool.and_eq_true] at h
    exact ⟨e, by simpa using he, h.1, Nat.eq_of_beq_eq_true h.2⟩
  · rintro ⟨e, he, h1, h2⟩
    exact ⟨e, by simpa using he, by rw [h1, h2, Nat.beq_refl]; rfl⟩
theorem ready_iff (hsz : listed.size = l.length) {i : Nat} : i ∈ Region.ready .any l.toArray listed ↔ i < l.length ∧ listed.getD i false = false ∧ ∀ j, edgeB l i j = true → listed.getD j false = true := by
  rw [mem_ready]
  constructor
  · rintro ⟨h1, o, h2, h3⟩
    have h2' : l[i]? = some o := by simpa using h2
    have hlt := (List.getElem?_eq_some_iff.1 h2').1
    refine ⟨hlt, ?_, fun j hj => ?_⟩
    · have : i < listed.size := by omega
      simpa [this] using h1
    · obtain ⟨e, he, hb, rfl⟩ := (edge_iff h2').1 hj
      exact h3 e he hb
  · rintro ⟨h1, h2, h3⟩
    refine ⟨?_, l[i], by simp, fun e he hb => h3 _ ((edge_iff (o := l[i]) (by simp)).2 ⟨e, he, hb, rfl⟩)⟩
    have : i < listed.size := by omega
    simpa [this] using h2
theorem back_lt (hb : ((List.range l.length).all fun i => backB l i) = true) {i j : Nat} (h : edgeB l i j = true) : j < i := by
  cases hlo : l[i]? with
  | none => unfold edgeB at h; rw [hlo] at h; cases h
  | some o =>
    have hlt := (List.getElem?_eq_some_iff.1 hlo).1
    have h1 := all_range hb hlt
    unfold backB at h1
    simp only [hlo] at h1
    obtain ⟨e, he, h2, rfl⟩ := (edge_iff hlo).1 h
    have h3 := List.all_eq_true.1 h1 e (by simpa using he)
    rw [h2] at h3
    simpa [Nat.blt_eq] using h3
/-- What stands behind comes up in its order. -/
theorem any_list {k0 : Nat} (hb : ((List.range l.length).all fun i => backB l i) = true) (hed : ∀ i, k0 < i → i < l.length → edgeB l i (i - 1) = true) : ∀ (s : Nat) (listed : Array Bool) (a : Act) (w : World), k0 + s ≤ l.length → listed.size = l.length → (∀ j, listed.getD j false = true ↔ j < l.length - s) → wpList P l.toArray Q (l.drop (l.length - s)) a w → wpAny P .any l.toArray Q s listed a w
  | 0, listed, a, w, hk, hsz, hl, h => by
    refine ⟨List.eq_nil_iff_forall_not_mem.2 fun i hi => ?_, ?_⟩
    · obtain ⟨h1, h2, _⟩ := (ready_iff hsz).1 hi
      rw [(hl i).2 (by omega)] at h2
      cases h2
    · rw [Nat.sub_zero, List.drop_length] at h
      exact h
  | s + 1, listed, a, w, hk, hsz, hl, h => by
    have hp : l.length - (s + 1) < l.length := by omega
    have hrd : ∀ i, i ∈ Region.ready .any l.toArray listed ↔ i = l.length - (s + 1) := by
      intro i
      rw [ready_iff hsz]
      constructor
      · rintro ⟨h1, h2, h3⟩
        have h4 : ¬ i < l.length - (s + 1) := fun hh => by rw [(hl i).2 hh] at h2; cases h2
        by_cases h5 : k0 < i
        · have := (hl _).1 (h3 (i - 1) (hed i h5 h1))
          omega
        · omega
      · rintro rfl
        refine ⟨hp, ?_, fun j hj => (hl j).2 (back_lt hb hj)⟩
        cases hh : listed.getD (l.length - (s + 1)) false with
        | false => rfl
        | true => have := (hl _).1 hh; omega
    refine ⟨fun h0 => ?_, fun i hi => ?_⟩
    · have := (hrd _).2 rfl
      rw [h0] at this
      cases this
    · have hi' := (hrd i).1 hi
      subst hi'
      have hd : l.drop (l.length - (s + 1)) = l[l.length - (s + 1)] :: l.drop (l.length - s) := by
        rw [List.drop_eq_getElem_cons hp]
        congr 2
        omega
      rw [hd] at h
      have hlo : l.toArray[l.length - (s + 1)]? = some l[l.length - (s + 1)] := by simp
      have ih : ∀ a w, wpList P l.toArray Q (l.drop (l.length - s)) a w → wpAny P .any l.toArray Q s (listed.setIfInBounds (l.length - (s + 1)) true) a w := by
        intro a w h
        refine any_list hb hed s _ a w (by omega) (by simpa using hsz) (fun j => ?_) h
        rw [getD_listed (by omega), hl j]
        omega
      unfold wpOp
      simp only [hlo]
      unfold wpList at h
      split
      · rename_i hw
        rw [if_pos hw] at h
        exact h.imp (Oper.wp_mono ih) id
      · rename_i hw
        rw [if_neg hw] at h
        exact ih _ _ h
theorem lk_of_mem : ∀ {σ : Sl} {t : Nat} {x : Gd × DV}, (σ.map (·.1)).Nodup → (t, x) ∈ σ → lk σ t = some x
  | [], _, _, _, h => by cases h
  | e :: σ, t, x, hn, h => by
    rw [List.map_cons, List.nodup_cons] at hn
    unfold lk
    rcases List.mem_cons.1 h with rfl | h
    · rw [Nat.beq_refl]; rfl
    · have : e.1 ≠ t := fun he => hn.1 (he ▸ List.mem_map_of_mem (f := (·.1)) h)
      rw [beq_ne this]
      exact lk_of_mem hn.2 h
def left (k : Nat) (listed : Array Bool) : Nat := ((List.range k).filter fun j => !listed.getD j false).length
theorem left_set {k i m : Nat} (hi : i < k) (hsz : i < listed.size) (hun : listed.getD i false = false) (h : left k listed = m + 1) : left k (listed.setIfInBounds i true) = m := by
  unfold left at h ⊢
  have h1 : ((List.range k).filter fun j => !(listed.setIfInBounds i true).getD j false) = ((List.range k).filter fun j => !listed.getD j false).erase i := by
    rw [List.Nodup.erase_eq_filter (List.nodup_range.filter _), List.filter_filter]
    refine List.filter_congr fun j hj => ?_
    by_cases hij : j = i
    · subst hij; simp [hsz]
    · rw [getD_set_ne false (Ne.symm hij)]; simp [hij]
  rw [h1, List.length_erase_of_mem, h]
  · rfl
  · rw [List.mem_filter]
    exact ⟨List.mem_range.2 hi, by rw [hun]; rfl⟩
theorem nodupB_ok : ∀ {q : List Nat}, nodupB q = true → q.Nodup
  | [], _ => List.nodup_nil
  | r :: q, h => by
    unfold nodupB at h
    rw [Bool.and_eq_true] at h
    refine List.nodup_cons.2 ⟨fun hm => ?_, nodupB_ok h.2⟩
    have h1 := List.all_eq_true.1 h.1 r hm
    rw [Nat.beq_refl] at h1
    cases h1
/-- Those ahead of b have come up. -/
def upto (l : List Oper) (b : Nat) : Array Bool := ((List.range l.length).map fun j => Nat.blt j b).toArray
theorem upto_size (l : List Oper) (b : Nat) : (upto l b).size = l.length := by simp [upto]
theorem upto_at {l : List Oper} {b j : Nat} (hb : b ≤ l.length) : (upto l b).getD j false = true ↔ j < b := by
  unfold upto
  simp only [Array.getD_eq_getD_getElem?, List.getElem?_toArray, List.getElem?_map]
  by_cases hj : j < l.length
  · rw [List.getElem?_range hj]
    simp [Nat.blt_eq]
  · rw [List.getElem?_eq_none (by simp; omega)]
    simp
    omega
/-- A region that draws, part of it done. -/
def Mid (P : Program) (l : List Oper) (Q : Exit → Act → World → Prop) (b : Nat) (a : Act) (w : World) : Prop := wpAny P .any l.toArray Q (l.length - b) (upto l b) a w
theorem listed_eq {l : List Oper} {b : Nat} {listed : Array Bool} (hb : b ≤ l.length) (hsz : listed.size = l.length) (h : ∀ j, listed.getD j false = true ↔ j < b) : listed = upto l b := by
  apply Array.ext
  · rw [hsz, upto_size]
  · intro i h1 h2
    have e1 : listed.getD i false = listed[i] := by simp [h1]
    have e2 : (upto l b).getD i false = (upto l b)[i] := by simp [h2]
    have h3 := h i
    have h4 := upto_at (l := l) (b := b) (j := i) hb
    rw [e1] at h3
    rw [e2] at h4
    cases hx : listed[i] <;> cases hy : (upto l b)[i] <;> simp_all <;> omega
def padF (b : Nat) (fs : List OpF) : List OpF := List.replicate b ⟨none, [], []⟩ ++ fs
def padP (b : Nat) (ps : List (List Nat × List Nat)) : List (List Nat × List Nat) := List.replicate b ([], []) ++ ps
/-- The next part of a region that draws. -/
theorem mid_any (b : Nat) (ps : List (List Nat × List Nat)) (hbl : Nat.ble b l.length = true) (h : St n σ0 H0 C w a ν) (hchk : chkAll l n C b (padF b fs) σ0 H0 (padP b ps) = true) (ho : OpsOk P l n C b (padF b fs) σ0 H0 (padP b ps) b (l.drop b) fs ps)
    (hK : ∀ a' w' ν', St n (slotL (padF b fs) (endS l b (b + fs.length) σ0) (List.range' b fs.length)) (liveL (padF b fs) H0) C w' a' ν' → Mid P l Q (b + fs.length) a' w') : Mid P l Q b a w := by
  have hfl : (padF b fs).length = b + fs.length := by simp [padF]
  have hfa : ∀ i f, b ≤ i → (padF b fs)[i]? = some f → fs[i - b]? = some f := fun i f hi hf => by
    unfold padF at hf
    rw [List.getElem?_append_right (by simpa using hi)] at hf
    simpa using hf
  have hfb : ∀ i f, i < b → (padF b fs)[i]? = some f → f = ⟨none, [], []⟩ := fun i f hi hf => by
    unfold padF at hf
    rw [List.getElem?_append_left (by simpa using hi)] at hf
    rw [List.getElem?_replicate] at hf
    simp [hi] at hf
    exact hf.symm
  have hpa : ∀ i p, (ps)[i]? = some p → (padP b ps)[b + i]? = some p := fun i p hp => by
    unfold padP
    rw [List.getElem?_append_right (by simp)]
    simpa using hp
  have hpb : ∀ i j, i < b → inAnc (padP b ps) i j = false := fun i j hi => by
    unfold inAnc padP
    rw [List.getElem?_append_left (by simpa using hi), List.getElem?_replicate]
    simp [hi, inN]
  generalize hfs : padF b fs = gs at *
  generalize hps : padP b ps = qs at *
  unfold chkAll at hchk
  simp only [Bool.and_eq_true] at hchk
  obtain ⟨⟨⟨⟨⟨hc1, hc0⟩, hc2⟩, hc3⟩, hc4⟩, hc5⟩ := hchk
  have hle : gs.length ≤ l.length := Nat.le_of_ble_eq_true hc1
  have hb : b ≤ l.length := Nat.le_of_ble_eq_true hbl
  have hback : ∀ {i j : Nat}, b ≤ i → edgeB l i j = true → j < i := by
    intro i j hi he
    cases hlo : l[i]? with
    | none => unfold edgeB at he; rw [hlo] at he; cases he
    | some o =>
      have hlt := (List.getElem?_eq_some_iff.1 hlo).1
      have h1 := all_range hc2 hlt
      rw [Bool.or_eq_true] at h1
      rcases h1 with h1 | h1
      · rw [Nat.blt_eq] at h1; omega
      · unfold backB at h1
        simp only [hlo] at h1
        obtain ⟨e, he', h2, rfl⟩ := (edge_iff hlo).1 he
        have h3 := List.all_eq_true.1 h1 e (by simpa using he')
        rw [h2] at h3
        simpa [Nat.blt_eq] using h3
  have hat : ∀ i, b ≤ i → i < gs.length → ∃ o f p, l[i]? = some o ∧ gs[i]? = some f ∧ qs[i]? = some p ∧ chkOp l n C gs σ0 H0 qs i o f p = true ∧ OpOk P l n C (slotL gs (selS l b gs.length qs i σ0) p.1) (needL gs H0 p.1 p.2) o f := by
    intro i hbi hi
    have h1 := all_range hc3 hi
    rw [Bool.or_eq_true] at h1
    rcases h1 with h1 | h1
    · rw [Nat.blt_eq] at h1; omega
    unfold chkAt at h1
    split at h1
    · rename_i o f p hlo hfi hpi
      obtain ⟨o', p', h2, h3, h4⟩ := ho.at_ (i - b) f (hfa i f hbi hfi)
      rw [show b + (i - b) = i by omega] at h4
      rw [List.getElem?_drop, show b + (i - b) = i by omega, hlo] at h2
      have h5 := hpa _ _ h3
      rw [show b + (i - b) = i by omega, hpi] at h5
      cases h2
      cases h5
      exact ⟨o, f, p, hlo, hfi, hpi, h1, h4⟩
    · cases h1
  have hsuf : ∀ i, gs.length ≤ i → i < l.length → (∃ k, gs.length ≤ k ∧ k < i ∧ edgeB l i k = true) ∨ ∀ j, b ≤ j → j < gs.length → edgeB l i j = true ∨ ∃ k, edgeB l i k = true ∧ inAnc qs k j = true := by
    intro i h1 h2
    have h3 := all_range hc5 h2
    have h4 : Nat.blt i gs.length = false := by
      cases hq : Nat.blt i gs.length with
      | false => rfl
      | true => rw [Nat.blt_eq] at hq; omega
    simp only [h4, Bool.false_or, Bool.or_eq_true] at h3
    rcases h3 with h3 | h3
    · left
      rw [List.any_eq_true] at h3
      obtain ⟨k, hk, h5⟩ := h3
      rw [Bool.and_eq_true] at h5
      refine ⟨k, ?_, List.mem_range.1 hk, h5.2⟩
      refine Nat.le_of_not_lt fun hh => ?_
      have : Nat.blt k gs.length = true := by rw [Nat.blt_eq]; exact hh
      rw [this] at h5
      simp at h5
    · right
      intro j hbj hj
      have h5 := all_range h3 hj
      simp only [Bool.or_eq_true] at h5
      rcases h5 with (h5 | h5) | h5
      · rw [Nat.blt_eq] at h5; omega
      · exact .inl h5
      · rw [List.any_eq_true] at h5
        obtain ⟨k, _, h6⟩ := h5
        rw [Bool.and_eq_true] at h6
        exact .inr ⟨k, h6⟩
  have key : ∀ (m : Nat) (listed : Array Bool) (a : Act) (w : World) (ν : Nm) (H : Hp), left gs.length listed = m → listed.size = l.length → (∀ j, gs.length ≤ j → listed.getD j false = false) → (∀ j, j < b → listed.getD j false = true) → Inv l n C b gs σ0 H0 qs listed a w ν H → wpAny P .any l.toArray Q (m + (l.length - gs.length)) listed a w := by
    intro m
    induction m with
    | zero =>
      intro listed a w ν H hm0 hsz hge hlb hI
      have hall : ∀ j, listed.getD j false = true ↔ j < gs.length := by
        intro j
        constructor
        · intro hj
          refine Nat.lt_of_not_le fun hh => ?_
          rw [hge j hh] at hj
          cases hj
        · intro hj
          cases hq : listed.getD j false with
          | true => rfl
          | false =>
            have : j ∈ ((List.range gs.length).filter fun j => !listed.getD j false) := by
              rw [List.mem_filter]
              exact ⟨List.mem_range.2 hj, by rw [hq]; rfl⟩
            rw [List.length_eq_zero_iff.1 hm0] at this
            cases this
      have hend : ∀ e ∈ endS l b gs.length σ0, e ∈ σ0 ∧ ∀ k, b ≤ k → listed.getD k false = true → dstB l k e.1 = false := by
        intro e he
        unfold endS at he
        rw [List.mem_filter] at he
        refine ⟨he.1, fun k hbk hk => ?_⟩
        have h1 := all_range he.2 ((hall k).1 hk)
        rw [Bool.or_eq_true] at h1
        rcases h1 with h1 | h1
        · rw [Nat.blt_eq] at h1; omega
        · simpa using h1
      have hfin : St n (slotL gs (endS l b gs.length σ0) (List.range' b fs.length)) (liveL gs H0) C w a ν := by
        have hmem : ∀ e, e ∈ liveL gs H0 ↔ e ∈ H := by
          intro e
          rw [mem_liveL, hI.mem e]
          constructor
          · rintro ⟨h1, h2⟩
            refine ⟨?_, fun j f _ hf => h2 j f hf⟩
            rcases h1 with h1 | ⟨j, f, h3, h4⟩
            · exact .inl h1
            · exact .inr ⟨j, f, (hall j).2 (List.getElem?_eq_some_iff.1 h3).1, h3, h4⟩
          · rintro ⟨h1, h2⟩
            refine ⟨?_, fun j f hf => h2 j f ((hall j).2 (List.getElem?_eq_some_iff.1 hf).1) hf⟩
            rcases h1 with h1 | ⟨j, f, _, h3, h4⟩
            · exact .inl h1
            · exact .inr ⟨j, f, h3, h4⟩
        have h1 := hI.ok.same (H' := liveL gs H0) (fun e => (hmem e).symm) (nodupB_ok hc4)
        exact ⟨(hI.slots hend (fun j hj => (hall j).2 (by have := (List.mem_range'_1.1 hj).2; omega))).keep h1.2 (fun _ _ => rfl), h1.1⟩
      rw [hfl] at hfin hall
      have h2 := hK a w ν hfin
      unfold Mid at h2
      rw [Nat.zero_add, hfl, listed_eq (by omega) hsz hall]
      exact h2
    | succ m ih =>
      intro listed a w ν H hm1 hsz hge hlb hI
      rw [show m + 1 + (l.length - gs.length) = (m + (l.length - gs.length)) + 1 from by omega]
      obtain ⟨j0, hj0⟩ : ∃ j, j ∈ ((List.range gs.length).filter fun j => !listed.getD j false) := by
        cases hq : ((List.range gs.length).filter fun j => !listed.getD j false) with
        | nil => unfold left at hm1; rw [hq] at hm1; cases hm1
        | cons j r => exact ⟨j, List.mem_cons_self⟩
      have hrd : ∀ i ∈ Region.ready .any l.toArray listed, i < gs.length ∧ listed.getD i false = false ∧ ∀ j, edgeB l i j = true → listed.getD j false = true := by
        intro i hi
        obtain ⟨h1, h2, h3⟩ := (ready_iff hsz).1 hi
        refine ⟨?_, h2, h3⟩
        refine Nat.lt_of_not_le fun hge' => ?_
        rw [List.mem_filter] at hj0
        have hj1 := List.mem_range.1 hj0.1
        have hj2 : listed.getD j0 false = false := by simpa using hj0.2
        have hj3 : b ≤ j0 := Nat.le_of_not_lt fun hh => by rw [hlb j0 hh] at hj2; cases hj2
        rcases hsuf i hge' h1 with ⟨k, hk1, _, hk2⟩ | h4
        · have := h3 k hk2
          rw [hge k hk1] at this
          cases this
        · rcases h4 j0 hj3 hj1 with h5 | ⟨k, h5, h6⟩
          · rw [h3 j0 h5] at hj2; cases hj2
          · rw [hI.cl k j0 (h3 k h5) h6] at hj2; cases hj2
      refine ⟨fun h0 => ?_, fun i hi => ?_⟩
      · exfalso
        have hex : ∃ j, j < gs.length ∧ listed.getD j false = false := by
          rw [List.mem_filter] at hj0
          exact ⟨j0, List.mem_range.1 hj0.1, by simpa using hj0.2⟩
        obtain ⟨j, ⟨h1, h2⟩, h3⟩ : ∃ j, (j < gs.length ∧ listed.getD j false = false) ∧ ∀ k, k < j → ¬ (k < gs.length ∧ listed.getD k false = false) := by
          have : ∀ N j, j < N → (j < gs.length ∧ listed.getD j false = false) → ∃ j, (j < gs.length ∧ listed.getD j false = false) ∧ ∀ k, k < j → ¬ (k < gs.length ∧ listed.getD k false = false) := by
            intro N
            induction N with
            | zero => intro j hj; omega
            | succ N ihN =>
              intro j hj hp
              by_cases hq : ∃ k, k < j ∧ (k < gs.length ∧ listed.getD k false = false)
              · obtain ⟨k, hk, hkp⟩ := hq
                exact ihN k (by omega) hkp
              · exact ⟨j, hp, fun k hk hkp => hq ⟨k, hk, hkp⟩⟩
          obtain ⟨j, hj⟩ := hex
          exact this (j + 1) j (by omega) hj
        have hbj : b ≤ j := Nat.le_of_not_lt fun hh => by rw [hlb j hh] at h2; cases h2
        have : j ∈ Region.ready .any l.toArray listed := by
          rw [ready_iff hsz]
          refine ⟨by omega, h2, fun k hk => ?_⟩
          have hlt := hback hbj hk
          cases hq : listed.getD k false with
          | true => rfl
          | false => exact absurd ⟨by omega, hq⟩ (h3 k hlt)
        rw [h0] at this
        cases this
      · obtain ⟨h1, h2, h3⟩ := hrd i hi
        have hbi : b ≤ i := Nat.le_of_not_lt fun hh => by rw [hlb i hh] at h2; cases h2
        obtain ⟨o, f, p, hlo, hfi, hpi, hcO, hoO⟩ := hat i hbi h1
        refine hI.step hbi hlo hfi hpi hcO hoO (fun k hk => Nat.lt_of_not_le fun hh => by rw [hge k hh] at hk; cases hk) (by omega) h2 h3 (fun a' w' ν' H' hI' => ?_)
        refine ih _ a' w' ν' H' (left_set h1 (by omega) h2 hm1) (by simpa using hsz) (fun j hj => ?_) (fun j hj => ?_) hI'
        · rw [getD_set_ne false (by omega)]
          exact hge j hj
        · rw [getD_set_ne false (by omega)]
          exact hlb j hj
  have hlen : left gs.length (upto l b) = fs.length := by
    unfold left
    have : ((List.range gs.length).filter fun j => !(upto l b).getD j false) = List.range' b fs.length := by
      rw [hfl, List.range_eq_range', ← List.range'_append_1, List.filter_append]
      rw [List.filter_eq_nil_iff.2, List.filter_eq_self.2, List.nil_append, Nat.zero_add]
      · intro j hj
        have h1 := (List.mem_range'_1.1 hj).1
        have : ¬ (upto l b).getD j false = true := fun hh => by have := (upto_at hb).1 hh; omega
        simpa using this
      · intro j hj
        have h1 := (List.mem_range'_1.1 hj).2
        have : (upto l b).getD j false = true := (upto_at hb).2 (by omega)
        simp [this]
    rw [this, List.length_range']
  have := key fs.length (upto l b) a w ν H0 hlen (upto_size l b) (fun j hj => ?_) (fun j hj => (upto_at hb).2 hj) ⟨fun e => ?_, h.o, h.f.df, h.f.sz, fun e he _ => ?_, fun j f s hj hf hs => ?_, fun i j hi hij => ?_⟩
  · unfold Mid
    rw [show fs.length + (l.length - gs.length) = l.length - b from by omega] at this
    exact this
  · cases hq : (upto l b).getD j false with
    | false => rfl
    | true => have := (upto_at hb).1 hq; omega
  · constructor
    · intro he
      refine ⟨.inl he, fun j f hj hf hcon => ?_⟩
      rw [hfb j f ((upto_at hb).1 hj) hf] at hcon
      cases hcon
    · rintro ⟨he | ⟨j, f, hj, hf, hm⟩, _⟩
      · exact he
      · rw [hfb j f ((upto_at hb).1 hj) hf] at hm
        cases hm
  · refine ⟨h.f.df, h.f.sz, fun t g d hl hg => ?_⟩
    have hm := lk_mem hl
    rw [List.mem_singleton] at hm
    subst hm
    exact h.f.at_ t g d (lk_of_mem (nodupB_ok hc0) he) hg
  · rw [hfb j f ((upto_at hb).1 hj) hf] at hs
    cases hs
  · rw [hpb i j ((upto_at hb).1 hi)] at hij
    cases hij
/-- How a region that draws begins. -/
theorem k_any {id : Nat} (hm : P.follows .mixedOrders = true) (h : St n σ0 H0 C w a ν) (hK : ∀ w' ν', St n σ0 H0 C w' a ν' → Mid P l Q 0 a w') : (Code.region id l.toArray true).wp P Q a w := by
  refine wp_region_any hm ?_
  have hgrow := h.o.grow (w' := { w with drawn := w.drawn + 1 }) (Below.drew (Below.refl _ _))
  have h1 := hK { w with drawn := w.drawn + 1 } ν ⟨h.f.keep hgrow.2 (fun _ _ => rfl), hgrow.1⟩
  unfold Mid at h1
  have h2 : Array.replicate l.toArray.size false = upto l 0 := listed_eq (by omega) (by simp) (fun j => by
    simp only [Array.getD_eq_getD_getElem?, Array.getElem?_replicate]
    constructor
    · split <;> intro h <;> simp at h
    · intro h; omega)
  rw [h2]
  simpa using h1
/-- How it goes on in its order. -/
def seqB (l : List Oper) (b : Nat) : Bool := ((List.range l.length).all fun i => backB l i) && (List.range l.length).all fun i => Nat.ble i b || edgeB l i (i - 1)
theorem mid_list (b : Nat) (hbl : Nat.ble b l.length = true) (hs : seqB l b = true) (h : wpList P l.toArray Q (l.drop b) a w) : Mid P l Q b a w := by
  unfold seqB at hs
  rw [Bool.and_eq_true] at hs
  have hb : b ≤ l.length := Nat.le_of_ble_eq_true hbl
  refine any_list (k0 := b) hs.1 (fun i h3 h4 => ?_) (l.length - b) (upto l b) a w (by omega) (upto_size l b) (fun j => ?_) ?_
  · have h5 := all_range hs.2 h4
    rw [Bool.or_eq_true] at h5
    rcases h5 with h5 | h5
    · have := Nat.le_of_ble_eq_true h5; omega
    · exact h5
  · rw [upto_at hb]; omega
  · rw [show l.length - (l.length - b) = b from by omega]
    exact h
end
end Go.Proofs.YtjjmoihpjmojiaaDoor.D
