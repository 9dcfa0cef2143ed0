/- The state of a walk: slots and the call's own objects. -/
import Derived.Test.YtjjmoihpjmojiaaDoorG
set_option linter.unusedVariables false
set_option linter.unusedSimpArgs false
namespace Go.Proofs.YtjjmoihpjmojiaaDoor.D
open Go.RowKit

/-- The call's own objects by name: the header, and the blocks. -/
structure Nm where
  v : Nat → Value
  S : Nat → Nat → Prop
/-- An object of one's own: a row that may be made longer (rowh: with one cell that is the object q), or a block of fixed length. -/
inductive En where
  | row (e sz : Nat) (es : List (List DV))
  | rowh (e sz : Nat) (es : List (List DV)) (i j q : Nat)
  | blk (t : Nat) (cs : List DV)
  | lit (t n : Nat) (cs : List DV)
  | mp (es : List (Value × DV))
abbrev Hp := List (Nat × En)
/-- Of the call: the world at first; the objects lent to it; the blocks that it never sees. -/
structure Cx where
  w0 : World
  L : List (Nat × Value × (Nat → Prop))
  X : Nat → Prop
/-- What nobody writes: all blocks but those of one's own objects. -/
def Fz (ν : Nm) (H : Hp) (C : Cx) (w : World) (k : Nat) : Prop := k < w.heap.size ∧ ¬ C.X k ∧ ∀ e ∈ H, ¬ ν.S e.1 k
/-- A cell of an object. -/
def CT (ι : Nat → Value) (F : Nat → Prop) (w : World) (u : Value) (d : DV) (S : Nat → Prop) : Prop := u.oneCell' = true ∧ (DR ι F w u d ∨ OT F w u d S)
def EnR (ν : Nm) (F : Nat → Prop) (w : World) (r : Nat) : En → Prop
  | .row e sz es => OT F w (ν.v r) (.osl e sz es) (ν.S r)
  | .rowh e sz es i0 j0 q => ∃ (xs : List Value) (u : Nat → Nat → Value) (s : Nat → Nat → Nat → Prop), w.ownsRow 0 e sz (ν.v r) es.length xs ∧ (∀ k, blkOf (ν.v r) = some k → ν.S r k) ∧
      (∀ (i : Nat) (c : List DV), es[i]? = some c → c.length = sz) ∧
      (∀ (i : Nat) (c : List DV) (j : Nat) (d : DV), es[i]? = some c → c[j]? = some d → xs[i * sz + j]? = some (u i j) ∧ (u i j).oneCell' = true) ∧
      (∀ i j k, s i j k → ν.S r k ∧ blkOf (ν.v r) ≠ some k) ∧ (∀ i j i' j' k, s i j k → s i' j' k → i = i' ∧ j = j') ∧
      (∀ (i : Nat) (c : List DV) (j : Nat) (d : DV), es[i]? = some c → c[j]? = some d → (i = i0 ∧ j = j0 → u i j = ν.v q) ∧ (¬ (i = i0 ∧ j = j0) → OT F w (u i j) d (s i j)))
  | .blk t cs => ∃ (g : Nat) (vs : List Value) (s : Nat → Nat → Prop), ν.v r = .pointer (some ⟨g, 0, none⟩) ∧ w.heap[g]? = some (.cells vs.toArray t (0, 0)) ∧ vs.length = cs.length ∧ ν.S r g ∧
      (∀ j k, s j k → ν.S r k ∧ k ≠ g) ∧ (∀ j j' k, s j k → s j' k → j = j') ∧ ∀ (j : Nat) (u : Value) (d : DV), vs[j]? = some u → cs[j]? = some d → CT ν.v F w u d (s j)
  | .lit t n cs => ∃ (g : Nat) (vs : List Value), ν.v r = .slice (some ⟨g, 0, none⟩) n n ∧ w.heap[g]? = some (.cells vs.toArray t (0, 0)) ∧ vs.length = cs.length ∧ ν.S r g ∧ (∀ u ∈ vs, u.oneCell' = true) ∧
      ∀ (j : Nat) (u : Value) (d : DV), vs[j]? = some u → cs[j]? = some d → DR ν.v F w u d
  | .mp es => ∃ (g : Nat) (en : Array MapEntry) (clock : Nat), ν.v r = .map (some g) ∧ w.heap[g]? = some (.map en clock) ∧ ν.S r g ∧ en.toList.map (·.key) = es.map (·.1) ∧
      ∀ (j : Nat) (e : MapEntry) (p : Value × DV), en.toList[j]? = some e → es[j]? = some p → DR ν.v F w e.val p.2
def enr (r : Nat) : En → Bool
  | .row _ _ _ => true
  | .rowh _ _ _ _ _ q => !Nat.beq q r
  | .blk _ cs => nr.nrs r cs
  | .lit _ _ cs => nr.nrs r cs
  | .mp es => es.all fun p => nr r p.2
/-- The objects. -/
structure Ok (ν : Nm) (H : Hp) (C : Cx) (w : World) : Prop where
  ent : ∀ e ∈ H, EnR ν (Fz ν H C w) w e.1 e.2
  nd : (H.map (·.1)).Nodup
  ap : ∀ e ∈ H, ∀ e' ∈ H, e.1 ≠ e'.1 → ∀ k, ν.S e.1 k → ¬ ν.S e'.1 k
  bnd : ∀ e ∈ H, ∀ k, ν.S e.1 k → k < w.heap.size
  base : ∀ e ∈ H, ∀ k, ν.S e.1 k → (∃ p ∈ C.L, p.2.2 k) ∨ C.w0.heap.size ≤ k
  lent : ∀ p ∈ C.L, ν.v p.1 = p.2.1
  hX : ∀ k, C.X k → k < C.w0.heap.size ∧ ∀ p ∈ C.L, ¬ p.2.2 k
  os : w.os = C.w0.os
  tape : w.tape = C.w0.tape
  out : w.output = C.w0.output
  size : C.w0.heap.size ≤ w.heap.size
  block : ∀ k, k < C.w0.heap.size → (∀ p ∈ C.L, ¬ p.2.2 k) → w.heap[k]? = C.w0.heap[k]?
  gl : ∀ p ∈ Gam, Fz ν H C w p.1 ∧ ∃ u : Nat → Nat → Value, ∀ (i : Nat) (c : List DV), p.2.2[i]? = some c → c.length = p.2.1 ∧ ∀ (j : Nat) (d : DV), c[j]? = some d → w.cell? ⟨p.1, i * p.2.1 + j, none⟩ = some (u i j) ∧ FR (Fz ν H C w) w (u i j) d
/-- An object that stays. -/
theorem EnR.mono {ν ν' : Nm} {F F' : Nat → Prop} {w w' : World} {r : Nat} {e : En} (h : EnR ν F w r e) (hF : ∀ k, F k → F' k ∧ w'.heap[k]? = w.heap[k]?) (A : Nat → Prop) (hι : ∀ s, A s → ν'.v s = ν.v s) (hA : ∀ s, ¬ A s → enr s e = true) (hr : A r) (hS : ν'.S r = ν.S r) (hb : ∀ k, ν.S r k → w'.heap[k]? = w.heap[k]?) : EnR ν' F' w' r e := by
  cases e with
  | row e sz es =>
    have h1 : OT F w (ν.v r) (.osl e sz es) (ν.S r) := h
    show OT F' w' (ν'.v r) (.osl e sz es) (ν'.S r)
    rw [hι r hr, hS]
    exact h1.mono hF hb
  | rowh e sz es i0 j0 q =>
    obtain ⟨xs, u, s, ho, h1, hl, hx, hs, hd, hc⟩ := h
    refine ⟨xs, u, s, ?_, ?_, hl, hx, ?_, hd, fun i c j d h2 h3 => ⟨fun hij => ?_, fun hij => ((hc i c j d h2 h3).2 hij).mono hF (fun k hk => hb k (hs i j k hk).1)⟩⟩
    · rw [hι r hr]; exact owns_keep ho (fun k hk => hb k (h1 k hk))
    · rw [hι r hr, hS]; exact h1
    · rw [hι r hr, hS]; exact hs
    · rw [(hc i c j d h2 h3).1 hij]
      have hq : A q := by
        by_cases ha : A q
        · exact ha
        · have := hA q ha
          simp [enr] at this
      exact (hι q hq).symm
  | blk t cs =>
    obtain ⟨g, vs, s, hv, hg, hl, h0, hs, hd, h2⟩ := h
    refine ⟨g, vs, s, by rw [hι r hr]; exact hv, (hb g h0).trans hg, hl, by rw [hS]; exact h0, by rw [hS]; exact hs, hd, fun j u d hj hd' => ?_⟩
    obtain ⟨h3, h4⟩ := h2 j u d hj hd'
    refine ⟨h3, ?_⟩
    rcases h4 with h4 | h4
    · exact .inl (h4.mono hF A hι (fun s hs => nrs_at (hA s hs) j d hd'))
    · exact .inr (h4.mono hF (fun k hk => hb k (hs j k hk).1))
  | lit t n cs =>
    obtain ⟨g, vs, hv, hg, hl, h0, h1, h2⟩ := h
    exact ⟨g, vs, by rw [hι r hr]; exact hv, (hb g h0).trans hg, hl, by rw [hS]; exact h0, h1, fun j u d hj hd' => (h2 j u d hj hd').mono hF A hι (fun s hs => nrs_at (hA s hs) j d hd')⟩
  | mp es =>
    obtain ⟨g, en, clock, hv, hg, h0, hk, h2⟩ := h
    exact ⟨g, en, clock, by rw [hι r hr]; exact hv, (hb g h0).trans hg, by rw [hS]; exact h0, hk, fun j e p hj hp => (h2 j e p hj hp).mono hF A hι (fun s hs => List.all_eq_true.1 (hA s hs) p (List.mem_of_getElem? hp))⟩
/-- The slots. -/
abbrev Gd := Option (Nat × Bool)
abbrev Sl := List (Nat × Gd × DV)
def lk : Sl → Nat → Option (Gd × DV)
  | [], _ => none
  | e :: r, t => bif Nat.beq e.1 t then some e.2 else lk r t
def Gd.on (a : Act) : Gd → Prop
  | none => True
  | some (s, u) => a.tmps[s]? = some (.bool u)
structure Fr (ι : Nat → Value) (F : Nat → Prop) (w : World) (n : Nat) (σ : Sl) (a : Act) : Prop where
  df : a.defers = []
  sz : a.tmps.size = n
  at_ : ∀ t g d, lk σ t = some (g, d) → Gd.on a g → ∃ v, a.tmps[t]? = some v ∧ DR ι F w v d
structure St (n : Nat) (σ : Sl) (H : Hp) (C : Cx) (w : World) (a : Act) (ν : Nm) : Prop where
  f : Fr ν.v (Fz ν H C w) w n σ a
  o : Ok ν H C w
theorem lk_mem {σ : Sl} {t : Nat} {x : Gd × DV} (h : lk σ t = some x) : (t, x) ∈ σ := by
  induction σ with
  | nil => cases h
  | cons e r ih =>
    unfold lk at h
    cases hb : Nat.beq e.1 t with
    | true =>
      rw [hb] at h
      simp only [cond_true, Option.some.injEq] at h
      have : e.1 = t := Nat.eq_of_beq_eq_true hb
      obtain ⟨e1, e2⟩ := e
      simp only at h this
      subst this h
      exact List.mem_cons_self
    | false =>
      rw [hb] at h
      exact List.mem_cons_of_mem _ (ih h)
/-- Of the slots that name r nothing is known any more. -/
def dropr (r : Nat) : Sl → Sl
  | [] => []
  | e :: l => (e.1, e.2.1, bif nr r e.2.2 then e.2.2 else .any) :: dropr r l
theorem lk_dropr {r : Nat} : ∀ {σ : Sl} {t : Nat} {g : Gd} {d : DV}, lk (dropr r σ) t = some (g, d) → ∃ d', lk σ t = some (g, d') ∧ ((d = d' ∧ nr r d = true) ∨ d = .any)
  | [], _, _, _, h => by cases h
  | e :: l, t, g, d, h => by
    unfold dropr lk at h
    unfold lk
    cases hb : Nat.beq e.1 t with
    | true =>
      simp only [hb, cond_true, Option.some.injEq, Prod.mk.injEq] at h ⊢
      obtain ⟨h1, h2⟩ := h
      refine ⟨e.2.2, by rw [← h1], ?_⟩
      cases hn : nr r e.2.2 with
      | true => rw [hn] at h2; simp only [cond_true] at h2; rw [← h2]; exact .inl ⟨rfl, hn⟩
      | false => rw [hn] at h2; exact .inr h2.symm
    | false =>
      simp only [hb, cond_false] at h ⊢
      exact lk_dropr h
theorem Fr.mono {ι ι' : Nat → Value} {F F' : Nat → Prop} {w w' : World} {n : Nat} {σ σ' : Sl} {a : Act} (h : Fr ι F w n σ a) (hF : ∀ k, F k → F' k ∧ w'.heap[k]? = w.heap[k]?) (A : Nat → Prop) (hι : ∀ s, A s → ι' s = ι s)
    (hσ : ∀ t g d, lk σ' t = some (g, d) → ∃ d', lk σ t = some (g, d') ∧ ((d = d' ∧ ∀ s, ¬ A s → nr s d = true) ∨ d = .any)) : Fr ι' F' w' n σ' a := by
  refine ⟨h.df, h.sz, fun t g d hl hg => ?_⟩
  obtain ⟨d', h1, h2⟩ := hσ t g d hl
  obtain ⟨v, h3, h4⟩ := h.at_ t g d' h1 hg
  refine ⟨v, h3, ?_⟩
  rcases h2 with ⟨rfl, h5⟩ | rfl
  · exact h4.mono hF A hι h5
  · exact .any v
def free (n d : Nat) (σ : Sl) : Bool := Nat.blt d n && σ.all fun e => match e.2.1 with
  | none => true
  | some (s, _) => !Nat.beq s d
theorem Fr.put {ι : Nat → Value} {F : Nat → Prop} {w : World} {n : Nat} {σ : Sl} {a : Act} {d : Nat} (h : Fr ι F w n σ a) (hd : free n d σ = true) (g : Gd) (x : DV) (v : Value) (hg : ∀ s u, g = some (s, u) → s ≠ d) (hv : Gd.on a g → DR ι F w v x) : Fr ι F w n ((d, g, x) :: σ) (a.put (some d) v) := by
  unfold free at hd
  rw [Bool.and_eq_true] at hd
  obtain ⟨hd, hs⟩ := hd
  have hd' : d < n := by simpa [Nat.blt_eq] using hd
  have on_ : ∀ g : Gd, (∀ s u, g = some (s, u) → s ≠ d) → Gd.on (a.put (some d) v) g → Gd.on a g := by
    intro g hg h
    cases g with
    | none => trivial
    | some x =>
      obtain ⟨s, u⟩ := x
      have := hg s u rfl
      simp only [Gd.on, Act.put] at h ⊢
      rwa [Array.getElem?_setIfInBounds_ne (Ne.symm this)] at h
  refine ⟨h.df, by simp [Act.put, h.sz], fun t g' v' hl hc => ?_⟩
  have hl0 := hl
  unfold lk at hl
  cases hb : Nat.beq d t with
  | true =>
    rw [hb] at hl
    simp only [cond_true, Option.some.injEq, Prod.mk.injEq] at hl
    obtain ⟨rfl, rfl⟩ := hl
    have : d = t := Nat.eq_of_beq_eq_true hb
    subst this
    have := h.sz
    exact ⟨v, by simp [Act.put, hd', this], hv (on_ _ hg hc)⟩
  | false =>
    rw [hb] at hl
    simp only [cond_false] at hl
    have hne : d ≠ t := Nat.ne_of_beq_eq_false hb
    have hg' : ∀ s u, g' = some (s, u) → s ≠ d := by
      intro s u e
      have := List.all_eq_true.1 hs _ (lk_mem hl)
      rw [e] at this
      simp only [Bool.not_eq_true'] at this
      exact Nat.ne_of_beq_eq_false this
    simp only [Act.put]
    rw [Array.getElem?_setIfInBounds_ne hne]
    exact h.at_ t g' v' hl (on_ _ hg' hc)
theorem Fr.skip {ι : Nat → Value} {F : Nat → Prop} {w : World} {n : Nat} {σ : Sl} {a : Act} {d : Nat} (h : Fr ι F w n σ a) (hd : free n d σ = true) (hl : lk σ d = Option.none) (v : Value) : Fr ι F w n σ (a.put (some d) v) := by
  have h1 := h.put hd none .any v (fun _ _ h => by cases h) (fun _ => .any v)
  refine ⟨h1.df, h1.sz, fun t g x hx hc => h1.at_ t g x ?_ hc⟩
  unfold lk
  cases hb : Nat.beq d t with
  | true =>
    have : d = t := Nat.eq_of_beq_eq_true hb
    subst this
    rw [hl] at hx
    cases hx
  | false => exact hx
/-! ### From one state to the next -/
section
variable {ν ν' : Nm} {H : Hp} {C : Cx} {w w' : World}
/-- A name that nothing bears. -/
def fresh (C : Cx) (H : Hp) (r : Nat) : Bool := (H.all fun e => !Nat.beq e.1 r && enr r e.2) && C.L.all fun p => !Nat.beq p.1 r
def upd (ν : Nm) (r : Nat) (x : Value) (S : Nat → Prop) : Nm := ⟨fun s => bif Nat.beq s r then x else ν.v s, fun s => bif Nat.beq s r then S else ν.S s⟩
section
variable {s r : Nat} {x : Value} {S : Nat → Prop}
theorem upd_v : (upd ν r x S).v r = x := by simp [upd]
theorem upd_S : (upd ν r x S).S r = S := by simp [upd]
theorem beq_ne (h : s ≠ r) : Nat.beq s r = false := by
  cases hq : Nat.beq s r with
  | false => rfl
  | true => exact absurd (Nat.eq_of_beq_eq_true hq) h
theorem upd_v_ne (h : s ≠ r) : (upd ν r x S).v s = ν.v s := by simp [upd, beq_ne h]
theorem upd_S_ne (h : s ≠ r) : (upd ν r x S).S s = ν.S s := by simp [upd, beq_ne h]
end
theorem fresh_H {r : Nat} (h : fresh C H r = true) : ∀ e ∈ H, e.1 ≠ r ∧ enr r e.2 = true := by
  intro e he
  unfold fresh at h
  rw [Bool.and_eq_true] at h
  have := List.all_eq_true.1 h.1 e he
  rw [Bool.and_eq_true] at this
  refine ⟨?_, this.2⟩
  have h1 := this.1
  simp only [Bool.not_eq_true'] at h1
  exact Nat.ne_of_beq_eq_false h1
theorem fresh_L {r : Nat} (h : fresh C H r = true) : ∀ p ∈ C.L, p.1 ≠ r := by
  intro p hp
  unfold fresh at h
  rw [Bool.and_eq_true] at h
  have := List.all_eq_true.1 h.2 p hp
  simp only [Bool.not_eq_true'] at this
  exact Nat.ne_of_beq_eq_false this
/-- The general step: objects of H' are old ones that stay, or told anew. -/
theorem Ok.step (h : Ok ν H C w) {H' : Hp} (A : Nat → Prop) (hι : ∀ s, A s → ν'.v s = ν.v s) (hL : ∀ p ∈ C.L, A p.1)
    (ho : w'.os = w.os) (ht : w'.tape = w.tape) (hu : w'.output = w.output) (hs : w.heap.size ≤ w'.heap.size)
    (hb : ∀ k, k < w.heap.size → (∀ e ∈ H, ¬ ν.S e.1 k) → w'.heap[k]? = w.heap[k]?)
    (hnd : (H'.map (·.1)).Nodup)
    (hap : ∀ e ∈ H', ∀ e' ∈ H', e.1 ≠ e'.1 → ∀ k, ν'.S e.1 k → ¬ ν'.S e'.1 k)
    (hold : ∀ e ∈ H', ∀ k, ν'.S e.1 k → k < w'.heap.size ∧ (w.heap.size ≤ k ∨ ∃ e' ∈ H, ν.S e'.1 k))
    (he : ∀ F : Nat → Prop, (∀ k, Fz ν H C w k → F k ∧ w'.heap[k]? = w.heap[k]?) → (∀ k, F k ↔ Fz ν' H' C w' k) → ∀ e ∈ H', EnR ν' F w' e.1 e.2) :
    Ok ν' H' C w' ∧ (∀ k, Fz ν H C w k → Fz ν' H' C w' k ∧ w'.heap[k]? = w.heap[k]?) := by
  have hF : ∀ k, Fz ν H C w k → Fz ν' H' C w' k ∧ w'.heap[k]? = w.heap[k]? := by
    intro k hk
    refine ⟨⟨Nat.lt_of_lt_of_le hk.1 hs, hk.2.1, fun e' he' hq => ?_⟩, hb k hk.1 hk.2.2⟩
    rcases (hold e' he' k hq).2 with h1 | ⟨e2, h1, h2⟩
    · have := hk.1; omega
    · exact hk.2.2 e2 h1 h2
  refine ⟨⟨he _ hF (fun _ => Iff.rfl), hnd, hap, fun e' he' k hk => (hold e' he' k hk).1, fun e' he' k hk => ?_, fun p hp => (hι _ (hL p hp)).trans (h.lent p hp), h.hX, ho.trans h.os, ht.trans h.tape, hu.trans h.out, Nat.le_trans h.size hs, fun k hk hl => ?_, fun p hp => ?_⟩, hF⟩
  · rcases (hold e' he' k hk).2 with h1 | ⟨e2, h1, h2⟩
    · have := h.size; exact .inr (by omega)
    · exact h.base e2 h1 k h2
  · rw [← h.block k hk hl]
    refine hb k (Nat.lt_of_lt_of_le hk h.size) (fun e he hq => ?_)
    rcases h.base e he k hq with ⟨p, hp, h1⟩ | h1
    · exact hl p hp h1
    · omega
  · obtain ⟨h1, u, h2⟩ := h.gl p hp
    refine ⟨(hF _ h1).1, u, fun i c hi => ?_⟩
    obtain ⟨h3, h4⟩ := h2 i c hi
    refine ⟨h3, fun j d hj => ?_⟩
    obtain ⟨h5, h6⟩ := h4 j d hj
    exact ⟨(World.cell?_of_block (hF _ h1).2).trans h5, h6.mono hF⟩
/-- A new object r; all else as it was. -/
theorem Ok.new (h : Ok ν H C w) (r : Nat) (x : Value) (S : Nat → Prop) (e : En) (hr : fresh C H r = true) (hb : Below w.heap.size w w') (hx : ∀ k, S k → w.heap.size ≤ k ∧ k < w'.heap.size)
    (he : ∀ F : Nat → Prop, (∀ k, Fz ν H C w k → F k ∧ w'.heap[k]? = w.heap[k]?) → (∀ k, F k ↔ Fz (upd ν r x S) ((r, e) :: H) C w' k) → EnR (upd ν r x S) F w' r e) :
    Ok (upd ν r x S) ((r, e) :: H) C w' ∧ (∀ k, Fz ν H C w k → Fz (upd ν r x S) ((r, e) :: H) C w' k ∧ w'.heap[k]? = w.heap[k]?) := by
  have h1 := fresh_H hr
  have h2 := fresh_L hr
  refine h.step (A := fun s => s ≠ r) (fun s hs => upd_v_ne hs) h2 hb.os hb.tape hb.output hb.size (fun k hk _ => hb.block k hk) ?_ ?_ ?_ ?_
  · rw [List.map_cons, List.nodup_cons]
    refine ⟨fun hm => ?_, h.nd⟩
    obtain ⟨e', he', hq⟩ := List.mem_map.1 hm
    exact (h1 e' he').1 hq
  · intro e1 hm1 e2 hm2 hne k hk hk2
    rcases List.mem_cons.1 hm1 with rfl | hm1 <;> rcases List.mem_cons.1 hm2 with rfl | hm2
    · exact hne rfl
    · rw [upd_S] at hk
      rw [upd_S_ne (h1 e2 hm2).1] at hk2
      have := hx k hk
      have := h.bnd e2 hm2 k hk2
      omega
    · rw [upd_S] at hk2
      rw [upd_S_ne (h1 e1 hm1).1] at hk
      have := hx k hk2
      have := h.bnd e1 hm1 k hk
      omega
    · rw [upd_S_ne (h1 e1 hm1).1] at hk
      rw [upd_S_ne (h1 e2 hm2).1] at hk2
      exact h.ap e1 hm1 e2 hm2 hne k hk hk2
  · intro e' he' k hk
    rcases List.mem_cons.1 he' with rfl | he'
    · rw [upd_S] at hk
      exact ⟨(hx k hk).2, .inl (hx k hk).1⟩
    · rw [upd_S_ne (h1 e' he').1] at hk
      exact ⟨Nat.lt_of_lt_of_le (h.bnd e' he' k hk) hb.size, .inr ⟨e', he', hk⟩⟩
  · intro F hF hF' e' he'
    rcases List.mem_cons.1 he' with rfl | he'
    · exact he F hF hF'
    · refine (h.ent e' he').mono hF (fun s => s ≠ r) (fun s hs => upd_v_ne hs) (fun s hs => ?_) (h1 e' he').1 (upd_S_ne (h1 e' he').1) (fun k hk => hb.block k (h.bnd e' he' k hk))
      have : s = r := Classical.not_not.1 hs
      rw [this]; exact (h1 e' he').2
/-- No object less, none more: the world has grown. -/
theorem Ok.grow (h : Ok ν H C w) (hb : Below w.heap.size w w') : Ok ν H C w' ∧ (∀ k, Fz ν H C w k → Fz ν H C w' k ∧ w'.heap[k]? = w.heap[k]?) :=
  h.step (A := fun _ => True) (fun _ _ => rfl) (fun _ _ => trivial) hb.os hb.tape hb.output hb.size (fun k hk _ => hb.block k hk) h.nd h.ap (fun e he k hk => ⟨Nat.lt_of_lt_of_le (h.bnd e he k hk) hb.size, .inr ⟨e, he, hk⟩⟩)
    (fun F hF _ e he => (h.ent e he).mono hF (fun _ => True) (fun _ _ => rfl) (fun _ hs => absurd trivial hs) trivial rfl (fun k hk => hb.block k (h.bnd e he k hk)))
end
end Go.Proofs.YtjjmoihpjmojiaaDoor.D
