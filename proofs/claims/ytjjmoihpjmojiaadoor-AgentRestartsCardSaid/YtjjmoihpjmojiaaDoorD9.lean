/- Returns; objects let go; objects given up for good. -/
import Derived.Test.YtjjmoihpjmojiaaDoorD8
set_option linter.unusedVariables false
set_option linter.unusedSimpArgs false
namespace Go.Proofs.YtjjmoihpjmojiaaDoor.D
open Go.RowKit

section
variable {P : Program} {τ : List (Nat × TR)} {n : Nat} {σ σ' : Sl} {H H' H0 H1 Hn : Hp} {C : Cx} {ν : Nm} {ι : Nat → Value} {F F' : Nat → Prop} {w w' W : World} {a : Act} {l rest ops : List Oper} {Q : Exit → Act → World → Prop} {o : Oper} {d : Nat} {A : Nat → Prop} {x r : DV} {g : Gd} {f : FuncId} {ds : List DV} {fn : Func} {c : Code}
/-- Fewer objects. -/
theorem Ok.less (h : Ok ν H C w) (hs : H1.Sublist H) : Ok ν H1 C w ∧ (∀ k, Fz ν H C w k → Fz ν H1 C w k ∧ w.heap[k]? = w.heap[k]?) :=
  h.step (A := fun _ => True) (fun _ _ => rfl) (fun _ _ => trivial) rfl rfl rfl (Nat.le_refl _) (fun _ _ _ => rfl) (h.nd.sublist (hs.map _)) (fun e he e' he' => h.ap e (hs.subset he) e' (hs.subset he'))
    (fun e he k hk => ⟨h.bnd e (hs.subset he) k hk, .inr ⟨e, hs.subset he, hk⟩⟩)
    (fun F hF _ e he => (h.ent e (hs.subset he)).mono hF (fun _ => True) (fun _ _ => rfl) (fun _ hs => absurd trivial hs) trivial rfl (fun _ _ => rfl))
def pick (rs : List Nat) (H : Hp) : Hp := H.filter fun e => rs.any fun r => Nat.beq r e.1
theorem Ok.only (h : Ok ν H C w) (rs : List Nat) : Ok ν (pick rs H) C w ∧ (∀ k, Fz ν H C w k → Fz ν (pick rs H) C w k ∧ w.heap[k]? = w.heap[k]?) := h.less List.filter_sublist
theorem St.only (h : St n σ H C w a ν) (rs : List Nat) : St n σ (pick rs H) C w a ν := ⟨h.f.keep (h.o.only rs).2 (fun _ _ => rfl), (h.o.only rs).1⟩
/-- Fewer slots. -/
def sub (σ : Sl) : List Nat → Option Sl
  | [] => some []
  | t :: r => match lk σ t, sub σ r with
    | some (none, v), some s => some ((t, none, v) :: s)
    | _, _ => none
theorem sub_mem {σ : Sl} : ∀ {l : List Nat} {s : Sl}, sub σ l = some s → ∀ t x, lk s t = some x → lk σ t = some x
  | [], s, h, t, x, hx => by simp only [sub, Option.some.injEq] at h; subst h; cases hx
  | k :: r, s, h, t, x, hx => by
    unfold sub at h
    split at h
    · rename_i v s' hk hr
      simp only [Option.some.injEq] at h
      subst h
      unfold lk at hx
      cases hb : Nat.beq k t with
      | true =>
        rw [hb] at hx
        have : k = t := Nat.eq_of_beq_eq_true hb
        subst this
        simp only [cond_true, Option.some.injEq] at hx
        rw [hk, ← hx]
      | false =>
        rw [hb] at hx
        exact sub_mem hr t x hx
    · cases h
theorem St.slots (h : St n σ H C w a ν) (l : List Nat) (hs : sub σ l = some σ') : St n σ' H C w a ν :=
  ⟨⟨h.f.df, h.f.sz, fun t g v hl hc => h.f.at_ t g v (sub_mem hs t _ hl) hc⟩, h.o⟩
/-- The return. -/
theorem r_ret (hτ : Tab P τ) (rs : List Nat) {l : List DV} (h : St n σ H C w a ν) (hr : resD τ H σ fn.results.toList = some l) (h1 : one l = r) (h2 : pick rs H = H1) : bodyPost P fn (Ends C r H1) .ret a w := by
  obtain ⟨v, h3, h4⟩ := results_ok (fn := fn) hτ h hr
  subst h1 h2
  have h5 := h.o.only rs
  exact ⟨h.f.df, v, h3, v, ν, rfl, h5.1, h4.keep h5.2⟩
theorem r_end (hτ : Tab P τ) (rs : List Nat) {l : List DV} (h : St n σ H C w a ν) (hr : resD τ H σ fn.results.toList = some l) (h1 : one l = r) (h2 : pick rs H = H1) : bodyPost P fn (Ends C r H1) .normal a w := r_ret hτ rs h hr h1 h2
/-! ### A row given up: it is read alone from now on -/
/-- The same, with all rows of one's own read alone. -/
inductive Fzn : DV → DV → Prop
  | same (d : DV) (h : pl d = true) : Fzn d d
  | osl (e sz : Nat) (es es' : List (List DV)) (hl : es.length = es'.length) (h1 : ∀ (i : Nat) (c c' : List DV), es[i]? = some c → es'[i]? = some c' → c.length = c'.length)
      (h : ∀ (i : Nat) (c c' : List DV) (j : Nat) (d d' : DV), es[i]? = some c → es'[i]? = some c' → c[j]? = some d → c'[j]? = some d' → Fzn d d') : Fzn (.osl e sz es) (.sl es')
theorem Fzn.inv {e sz : Nat} {es : List (List DV)} {d : DV} (h : Fzn (.osl e sz es) d) : ∃ es', d = .sl es' ∧ es.length = es'.length ∧ (∀ (i : Nat) (c c' : List DV), es[i]? = some c → es'[i]? = some c' → c.length = c'.length) ∧ (∀ (i : Nat) (c c' : List DV) (j : Nat) (d d' : DV), es[i]? = some c → es'[i]? = some c' → c[j]? = some d → c'[j]? = some d' → Fzn d d') := by
  cases h with
  | same _ h => cases h
  | osl _ _ _ es' hl h1 h => exact ⟨es', rfl, hl, h1, h⟩
theorem OT.frz {v : Value} {d d' : DV} {S : Nat → Prop} (h : OT F w v d S) (hF : ∀ k, F k → F' k) (hS : ∀ k, S k → F' k) (hz : Fzn d d') : FR F' w v d' := by
  induction h generalizing d' with
  | fr h S =>
    cases hz with
    | same => exact h.mono (fun k hk => ⟨hF k hk, rfl⟩)
    | osl => cases h
  | e0 e sz ad S =>
    obtain ⟨es', rfl, hll, _⟩ := hz.inv
    have : es' = [] := List.eq_nil_of_length_eq_zero (by simpa using hll.symm)
    subst this
    exact .e0 ad
  | osl e sz es v xs u s S ho hb hl hx hs hd hc ih =>
    obtain ⟨es', rfl, hll, h1, h2⟩ := hz.inv
    rcases ho.2 with ⟨hn, h0⟩ | ⟨gg, cap, cur, hv, hb0, hg, hcap, _⟩
    · have : es' = [] := List.eq_nil_of_length_eq_zero (by omega)
      subst this
      rw [hn]
      exact .nil
    · have hown : v.ownBlock = some gg := by rw [hv]; rfl
      have hcells := ho.cells hown
      rw [hv, hll]
      have back : ∀ (i : Nat) (c' : List DV), es'[i]? = some c' → ∃ c, es[i]? = some c ∧ c.length = c'.length := by
        intro i c' hi
        have hlt := (List.getElem?_eq_some_iff.1 hi).1
        have : es[i]? = some (es[i]'(by omega)) := List.getElem?_eq_getElem (by omega)
        exact ⟨_, this, h1 i _ c' this hi⟩
      have back2 : ∀ (i : Nat) (c' : List DV) (j : Nat) (d' : DV), es'[i]? = some c' → c'[j]? = some d' → ∃ c d, es[i]? = some c ∧ c[j]? = some d ∧ Fzn d d' := by
        intro i c' j d' hi hj
        obtain ⟨c, hc1, hc2⟩ := back i c' hi
        have hlt := (List.getElem?_eq_some_iff.1 hj).1
        have hcj : c[j]? = some (c[j]'(by omega)) := List.getElem?_eq_getElem (by omega)
        exact ⟨c, _, hc1, hcj, h2 i c c' j _ d' hc1 hi hcj hj⟩
      refine .sl ⟨gg, 0, none⟩ cap sz es' u (hS gg (hb gg (by rw [hv]; rfl))) (by omega) (fun i c' hi => ?_) (fun i c' j d' hi hj => ?_) (fun i c' j d' hi hj => ?_)
      · obtain ⟨c, hc1, hc2⟩ := back i c' hi
        rw [← hc2]; exact hl i c hc1
      · obtain ⟨c, d, hc1, hcj, _⟩ := back2 i c' j d' hi hj
        exact hcells _ _ (hx i c j d hc1 hcj).1
      · obtain ⟨c, d, hc1, hcj, hz⟩ := back2 i c' j d' hi hj
        exact ih i c j d hc1 hcj (fun k hk => hS k (hs i j k hk).1) hz
/-- x in the place of r. -/
def sb (r : Nat) (x : DV) : DV → DV
  | .own s => bif Nat.beq s r then x else .own s
  | .ptr s off => bif Nat.beq s r then .any else .ptr s off
  | .agg cs => .agg (sbs r x cs)
  | .tup cs => .tup (sbs r x cs)
  | .fn f a b => .fn f (sbs r x a) (sbs r x b)
  | d => d
where sbs (r : Nat) (x : DV) : List DV → List DV
  | [] => []
  | d :: l => sb r x d :: sbs r x l
theorem sbs_eq (r : Nat) (x : DV) : ∀ l : List DV, sb.sbs r x l = l.map (sb r x)
  | [] => rfl
  | d :: l => by rw [sb.sbs, sbs_eq r x l, List.map_cons]
theorem sbs_at {r : Nat} {x : DV} {l : List DV} {j : Nat} {d : DV} (h : (sb.sbs r x l)[j]? = some d) : ∃ d', l[j]? = some d' ∧ d = sb r x d' := by
  rw [sbs_eq, List.getElem?_map] at h
  obtain ⟨d', h1, h2⟩ := Option.map_eq_some_iff.1 h
  exact ⟨d', h1, h2.symm⟩
theorem DR.sb {q : Nat} {v : Value} {d : DV} (h : DR ι F w v d) (hF : ∀ k, F k → F' k) (hx : DR ι F' w (ι q) x) : DR ι F' w v (D.sb q x d) := by
  have hF2 : ∀ k, F k → F' k ∧ w.heap[k]? = w.heap[k]? := fun k hk => ⟨hF k hk, rfl⟩
  induction h with
  | any v => exact .any v
  | fr h =>
    cases h with
    | v _ h => exact .fr (.v _ h)
    | nil => exact .fr .nil
    | e0 ad => exact .fr (.e0 ad)
    | sl ad cap sz es u h1 h2 h3 h4 h5 => exact .fr ((FR.sl ad cap sz es u h1 h2 h3 h4 h5).mono hF2)
  | own s h =>
    unfold D.sb
    cases hb : Nat.beq s q with
    | true =>
      have : s = q := Nat.eq_of_beq_eq_true hb
      subst this
      exact hx
    | false => exact .own s h
  | ptr s gg off h =>
    unfold D.sb
    cases hb : Nat.beq s q with
    | true => exact .any _
    | false => exact .ptr s gg off h
  | fat ad c off u h1 h2 h3 => exact (DR.fat (ι := ι) ad c off u h1 h2 h3).keep hF2
  | fn f first cap us vs hu hv h1 h2 ih1 ih2 =>
    refine .fn f _ _ us vs (by rw [sbs_eq, List.length_map]; exact hu) (by rw [sbs_eq, List.length_map]; exact hv) (fun j u d hj hd => ?_) (fun j u d hj hd => ?_)
    · obtain ⟨d', hd1, rfl⟩ := sbs_at hd
      exact ih1 j u d' hj hd1
    · obtain ⟨d', hd1, rfl⟩ := sbs_at hd
      exact ih2 j u d' hj hd1
  | agg ds us hu h1 h ih =>
    refine .agg _ us (by rw [sbs_eq, List.length_map]; exact hu) h1 (fun j u d hj hd => ?_)
    obtain ⟨d', hd1, rfl⟩ := sbs_at hd
    exact ih j u d' hj hd1
  | tup ds us hu h ih =>
    refine .tup _ us (by rw [sbs_eq, List.length_map]; exact hu) (fun j u d hj hd => ?_)
    obtain ⟨d', hd1, rfl⟩ := sbs_at hd
    exact ih j u d' hj hd1
def sbσ (r : Nat) (x : DV) : Sl → Sl
  | [] => []
  | e :: l => (e.1, e.2.1, sb r x e.2.2) :: sbσ r x l
theorem lk_sb {q : Nat} : ∀ {σ : Sl} {t : Nat} {g : Gd} {d : DV}, lk (sbσ q x σ) t = some (g, d) → ∃ d', lk σ t = some (g, d') ∧ d = sb q x d'
  | [], _, _, _, h => by cases h
  | e :: l, t, g, d, h => by
    unfold sbσ lk at h
    unfold lk
    cases hb : Nat.beq e.1 t with
    | true =>
      simp only [hb, cond_true, Option.some.injEq, Prod.mk.injEq] at h ⊢
      exact ⟨e.2.2, by rw [← h.1], h.2.symm⟩
    | false =>
      simp only [hb, cond_false] at h ⊢
      exact lk_sb h
def del (r : Nat) (H : Hp) : Hp := H.filter fun e => !Nat.beq e.1 r
theorem mem_del {q : Nat} {e : Nat × En} (h : e ∈ del q H) : e ∈ H ∧ e.1 ≠ q := by
  unfold del at h
  rw [List.mem_filter] at h
  refine ⟨h.1, ?_⟩
  have := h.2
  simp only [Bool.not_eq_true'] at this
  exact Nat.ne_of_beq_eq_false this
/-- Row r is given up. -/
theorem St.frz {q e sz : Nat} {es es' : List (List DV)} (h : St n σ H C w a ν) (hq : hl H q = some (.row e sz es)) (hz : Fzn (.osl e sz es) (.sl es')) : St n (sbσ q (.sl es') σ) (del q H) C w a ν := by
  have h1 := h.o.less (H1 := del q H) List.filter_sublist
  refine ⟨⟨h.f.df, h.f.sz, fun t g d hl hg => ?_⟩, h1.1⟩
  obtain ⟨d', h2, rfl⟩ := lk_sb hl
  obtain ⟨v, h3, h4⟩ := h.f.at_ t g d' h2 hg
  refine ⟨v, h3, h4.sb (fun k hk => (h1.2 k hk).1) (.fr ?_)⟩
  have he := hl_mem hq
  refine OT.frz (h.o.ent _ he) (fun k hk => (h1.2 k hk).1) (fun k hk => ⟨h.o.bnd _ he k hk, fun hX => ?_, fun e' he' hk' => ?_⟩) hz
  · have h5 := h.o.hX k hX
    rcases h.o.base _ he k hk with ⟨p, hp, h6⟩ | h6
    · exact h5.2 p hp h6
    · omega
  · obtain ⟨h5, h6⟩ := mem_del he'
    exact h.o.ap _ he e' h5 (Ne.symm h6) k hk hk'
end
end Go.Proofs.YtjjmoihpjmojiaaDoor.D
