/- What one operation does to the state: values, new objects. -/
import Derived.Test.YtjjmoihpjmojiaaDoorD6
set_option linter.unusedVariables false
set_option linter.unusedSimpArgs false
namespace Go.Proofs.YtjjmoihpjmojiaaDoor.D
open Go.RowKit

/-- The operation comes to a value and a world of R. -/
def OpW (P : Program) (o : Oper) (a : Act) (w : World) (R : Value → World → Prop) : Prop :=
  ∀ (K : Act → World → Prop) (Q : Exit → Act → World → Prop), (∀ v w', R v w' → K (a.put o.dst v) w') → o.wp P a w K Q
/-- What it does: objects H', the value x; the names of A stand for what they stood for. -/
structure Aft (ν : Nm) (H : Hp) (C : Cx) (w : World) (A : Nat → Prop) (H' : Hp) (x : DV) (v : Value) (w' : World) (ν' : Nm) : Prop where
  same : ∀ s, A s → ν'.v s = ν.v s
  o : Ok ν' H' C w'
  F : ∀ k, Fz ν H C w k → Fz ν' H' C w' k ∧ w'.heap[k]? = w.heap[k]?
  v : DR ν'.v (Fz ν' H' C w') w' v x
def Eff (P : Program) (o : Oper) (a : Act) (w : World) (ν : Nm) (H : Hp) (C : Cx) (A : Nat → Prop) (H' : Hp) (x : DV) : Prop :=
  OpW P o a w (fun v w' => ∃ ν', Aft ν H C w A H' x v w' ν')
section
variable {P : Program} {τ : List (Nat × TR)} {n : Nat} {σ σ' : Sl} {H H' Hn : Hp} {C : Cx} {ν : Nm} {ι : Nat → Value} {w w' W : World} {a : Act} {l rest ops : List Oper} {Q : Exit → Act → World → Prop} {o : Oper} {d : Nat} {A : Nat → Prop} {x : DV} {g : Gd}
theorem OpW.of_run {R : Value → World → Prop} {v : Value} (hr : (execOp a.eval o).run P w = .ok (.value v) w') (h : R v w') : OpW P o a w R := fun K Q hK => by
  unfold Oper.wp
  rw [hr]
  exact hK v w' h
theorem OpW.of_skip {R : Value → World → Prop} (hr : (execOp a.eval o).run P w = .ok .skip w') (h : R undef w') : OpW P o a w R := fun K Q hK => by
  unfold Oper.wp
  rw [hr]
  exact hK undef w' h
/-- All names stand. -/
def every : Nat → Prop := fun _ => True
def but (r : Nat) : Nat → Prop := fun s => s ≠ r
theorem Fr.keep {F F' : Nat → Prop} {ι' : Nat → Value} (h : Fr ι F w n σ a) (hF : ∀ k, F k → F' k ∧ w'.heap[k]? = w.heap[k]?) (hs : ∀ s, every s → ι' s = ι s) : Fr ι' F' w' n σ a :=
  h.mono hF every hs (fun t g d hl => ⟨d, hl, .inl ⟨rfl, fun s hs => absurd trivial hs⟩⟩)
theorem Fr.drop {F F' : Nat → Prop} {ι' : Nat → Value} {r : Nat} (h : Fr ι F w n σ a) (hF : ∀ k, F k → F' k ∧ w'.heap[k]? = w.heap[k]?) (hs : ∀ s, but r s → ι' s = ι s) : Fr ι' F' w' n (dropr r σ) a :=
  h.mono hF (but r) hs (fun t g d hl => by
    obtain ⟨d', h1, h2⟩ := lk_dropr hl
    refine ⟨d', h1, ?_⟩
    rcases h2 with ⟨h3, h4⟩ | h3
    · refine .inl ⟨h3, fun s hs => ?_⟩
      have : s = r := Classical.not_not.1 hs
      rw [this]; exact h4
    · exact .inr h3)
theorem free_dropr {r m k : Nat} : ∀ {σ : Sl}, free m k σ = true → free m k (dropr r σ) = true := by
  intro σ h
  unfold free at h ⊢
  rw [Bool.and_eq_true] at h ⊢
  refine ⟨h.1, ?_⟩
  have : ∀ σ : Sl, (σ.all fun e => match e.2.1 with
    | none => true
    | some (s, _) => !Nat.beq s k) = true → ((dropr r σ).all fun e => match e.2.1 with
    | none => true
    | some (s, _) => !Nat.beq s k) = true := by
    intro σ
    induction σ with
    | nil => exact fun h => h
    | cons e l ih =>
      intro h
      simp only [dropr, List.all_cons, Bool.and_eq_true] at h ⊢
      exact ⟨h.1, ih h.2⟩
  exact this σ h.2
/-- The next operation. -/
theorem s_val (h : St n σ H C w a ν) (hw : Region.wanted o (yielded l.toArray a.tmps) = true) (hd : o.dst = some d) (hf : free n d σ = true) (he : Eff P o a w ν H C every H' x)
    (hK : ∀ a' w' ν', St n ((d, none, x) :: σ) H' C w' a' ν' → wpList P l.toArray Q rest a' w') : wpList P l.toArray Q (o :: rest) a w := by
  unfold wpList
  rw [if_pos hw]
  refine .inl (he _ _ (fun v w' hv => ?_))
  obtain ⟨ν', hv⟩ := hv
  rw [hd]
  exact hK _ w' ν' ⟨(h.f.keep hv.F hv.same).put hf none x v (fun _ _ h => by cases h) (fun _ => hv.v), hv.o⟩
theorem s_eff (h : St n σ H C w a ν) (hw : Region.wanted o (yielded l.toArray a.tmps) = true) (hd : o.dst = none) (he : Eff P o a w ν H C every H' x)
    (hK : ∀ a' w' ν', St n σ H' C w' a' ν' → wpList P l.toArray Q rest a' w') : wpList P l.toArray Q (o :: rest) a w := by
  unfold wpList
  rw [if_pos hw]
  refine .inl (he _ _ (fun v w' hv => ?_))
  obtain ⟨ν', hv⟩ := hv
  rw [hd]
  exact hK _ w' ν' ⟨h.f.keep hv.F hv.same, hv.o⟩
theorem s_new {r : Nat} (h : St n σ H C w a ν) (hw : Region.wanted o (yielded l.toArray a.tmps) = true) (hd : o.dst = some d) (hf : free n d σ = true) (he : Eff P o a w ν H C (but r) H' x)
    (hK : ∀ a' w' ν', St n ((d, none, x) :: dropr r σ) H' C w' a' ν' → wpList P l.toArray Q rest a' w') : wpList P l.toArray Q (o :: rest) a w := by
  unfold wpList
  rw [if_pos hw]
  refine .inl (he _ _ (fun v w' hv => ?_))
  obtain ⟨ν', hv⟩ := hv
  rw [hd]
  exact hK _ w' ν' ⟨(h.f.drop hv.F hv.same).put (free_dropr hf) none x v (fun _ _ h => by cases h) (fun _ => hv.v), hv.o⟩
/-- A pure operation, alone. -/
theorem e_pure (hτ : Tab P τ) (hF : Fr ν.v (Fz ν H C w) w n σ a) (hO : Ok ν H C w) (hn : ∀ e ∈ Hn, e ∈ H) (hg : Gd.on a g) (hp : pv τ Hn σ g o.op = some x) : Eff P o a w ν H C every H x := by
  obtain ⟨v, h1, h2⟩ := pv_ok (P := P) (w := w) hτ hF (fun e he => hO.ent e (hn e he)) hg hp
  exact .of_run h1 ⟨ν, fun _ _ => rfl, hO, fun k hk => ⟨hk, rfl⟩, h2⟩
/-- A new block: the cells are told. -/
theorem e_blk {r t : Nat} {us : List Value} {cs : List DV} (hO : Ok ν H C w) (hr : fresh C H r = true) (hrun : (execOp a.eval o).run P w = .ok (.value (.pointer (some ⟨w.heap.size, 0, none⟩))) (w.alloc (.cells us.toArray t))) (hc : All ν.v (Fz ν H C w) w us cs) (h1 : ∀ u ∈ us, u.oneCell' = true) (hn : nr.nrs r cs = true) :
    Eff P o a w ν H C (but r) ((r, .blk t cs) :: H) (.ptr r 0) := by
  have hnew := hO.new (w' := w.alloc (.cells us.toArray t)) r (.pointer (some ⟨w.heap.size, 0, none⟩)) (fun k => k = w.heap.size) (.blk t cs) hr (Below.alloc (Below.refl _ _) (Nat.le_refl _) _) (fun k hk => ⟨by omega, by simp; omega⟩) (fun F hF hF' => by
    refine ⟨w.heap.size, us, fun _ _ => False, upd_v, heap_alloc_new w _, hc.length, by rw [upd_S], fun _ _ h => h.elim, fun _ _ _ h => h.elim, fun j u d hu hd => ⟨h1 u (List.mem_of_getElem? hu), .inl ?_⟩⟩
    refine (hc.at_ j u d hu hd).mono hF (but r) (fun s hs => upd_v_ne hs) (fun s hs => ?_)
    have : s = r := Classical.not_not.1 hs
    rw [this]; exact nrs_at hn j d hd)
  exact .of_run hrun ⟨_, fun s hs => upd_v_ne hs, hnew.1, hnew.2, .ptr _ _ _ (by rw [upd_v]; rfl)⟩
theorem zero_of {t : Nat} {r : TR} {z : List Value} (h : TR.ok P t r) (hz : r.z = some z) : ∃ v : Value, (∀ w : World, (zeroValue t).run P w = .ok v w) ∧ v.cells.toList = z := by
  obtain ⟨v, h1, h2⟩ := h.2.1 z hz
  obtain ⟨i, hi, hz⟩ := Option.bind_eq_some_iff.1 h1
  exact ⟨v, fun w => by simp [zeroValue, typeInfo, hi, hz], h2⟩
def isAlloc (τ : List (Nat × TR)) : Op → Option (Nat × List Value)
  | .alloc t => match tl τ t with
    | some ⟨_, _, some z⟩ => bif allOne z then some (t, z) else none
    | _ => none
  | _ => none
theorem e_alloc {r t : Nat} {z : List Value} (hτ : Tab P τ) (hO : Ok ν H C w) (hr : fresh C H r = true) (hp : isAlloc τ o.op = some (t, z)) : Eff P o a w ν H C (but r) ((r, .blk t (z.map .v)) :: H) (.ptr r 0) := by
  unfold isAlloc at hp
  split at hp
  · rename_i t' ho
    split at hp
    · rename_i k sz z' ht
      cases h1 : allOne z' with
      | false => rw [h1] at hp; cases hp
      | true =>
        rw [h1] at hp
        simp only [cond_true, Option.some.injEq, Prod.mk.injEq] at hp
        obtain ⟨rfl, rfl⟩ := hp
        obtain ⟨v, h2, h3⟩ := zero_of (hτ.get ht) rfl
        refine e_blk (us := z') hO hr ?_ (allZ (allOne_mem h1)) (allOne_mem h1) ?_
        · unfold execOp
          simp only [ho]
          refine run_val ?_
          have h4 : v.cells = z'.toArray := by rw [← h3]
          simp [Instr.alloc, h2, newVar, newRow, h4]
        · generalize z' = z
          induction z with
          | nil => rfl
          | cons x z ih => exact ih
    · cases hp
  · cases hp
def isBox (σ : Sl) (g : Gd) : Op → Option (Nat × List DV)
  | .box t x => match ev σ g x with
    | some d => match cellsD d with
      | some cs => some (t, cs)
      | none => none
    | none => none
  | _ => none
theorem e_box {r t : Nat} {cs : List DV} (hF : Fr ν.v (Fz ν H C w) w n σ a) (hO : Ok ν H C w) (hr : fresh C H r = true) (hg : Gd.on a g) (hp : isBox σ g o.op = some (t, cs)) (hn : nr.nrs r cs = true) : Eff P o a w ν H C (but r) ((r, .blk t cs) :: H) (.ptr r 0) := by
  unfold isBox at hp
  split at hp
  · rename_i t' y ho
    split at hp
    · rename_i d hy
      split at hp
      · rename_i cs' hc
        simp only [Option.some.injEq, Prod.mk.injEq] at hp
        obtain ⟨rfl, rfl⟩ := hp
        obtain ⟨h1, h2⟩ := cellsD_ok (hF.eval hy hg) hc
        refine e_blk (us := (a.eval y).cells.toList) hO hr ?_ h1 h2 hn
        unfold execOp
        simp only [ho]
        refine run_val ?_
        simp [Instr.box, newVar, newRow]
      · cases hp
    · cases hp
  · cases hp
end
end Go.Proofs.YtjjmoihpjmojiaaDoor.D
